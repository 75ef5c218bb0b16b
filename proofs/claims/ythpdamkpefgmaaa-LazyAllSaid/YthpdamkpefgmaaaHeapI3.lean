/- Layer 14: Drain, the iterator. -/
import Derived.Test.YthpdamkpefgmaaaHeapC3
import Derived.Test.YthpdamkpefgmaaaRangeSt
import Derived.RangeFuncBound
import Derived.RangeFuncCalls
import Derived.Shelf.Abstract
import Derived.Shelf.RegionOpen
import Derived.OwnWalkIn
import Derived.TacticsInMore
import Derived.LoopNIn
import Derived.LoopIn
namespace Go.Proofs.Ythpdamkpefgmaaa.Heap3
open Go.RowKit Go.Shelf Base Foot RangeSt HeapPure
set_option linter.unusedVariables false
set_option linter.unusedSectionVars false
attribute [local go_sem] Oper.semAt_some
set_option maxHeartbeats 400000 in
theorem drain_any (b : Nat) (w : World) : Calls Try.prog 61 #[.pointer (some ⟨b, 0, none⟩)] w fun e w' => e = .returned (.func (.func 81) #[] #[.pointer (some ⟨w.heap.size, 0, none⟩)]) ∧ w' = w.alloc (.cells #[.pointer (some ⟨b, 0, none⟩)] 98) := by
  have hmf : ∀ (fn : Fn) (first cap : Array Value) (w : World), (Instr.makeFunc fn first cap).run Try.prog w = .ok (.func fn first cap) w := fun _ _ _ _ => rfl
  go_enter Try.func61, Try.ntmps61
  go_wp2
  go_ret
  exact ⟨rfl, rfl⟩
section
variable {fp : Value} {F : Nat} {lt : Item → Item → Bool} {I : World → Prop} {G : Nat → Prop} (hC : Cmp fp F lt I G)
/-- between two rounds: pre has come, rest is left -/
def St (fp : Value) (F : Nat) (lt : Item → Item → Bool) (I : World → Prop) (G : Nat → Prop) (B b bc : Nat) (g0 : Option Nat) (l0 : List Item) (pu pk : Int) (pre rest : List Item) (W : World) : Prop :=
  ∃ lv, HeapT fp F I G B W b lv rest pu pk ∧ HeapFrom lt rest 0 ∧ lv.ownBlock = g0 ∧ (pre ++ rest).Perm l0 ∧ W.heap[bc]? = some (.cells #[.pointer (some ⟨b, 0, none⟩)] 98 (0, 0))
/-- at a call of yield: x comes next -/
def Mid (fp : Value) (F : Nat) (lt : Item → Item → Bool) (I : World → Prop) (G : Nat → Prop) (B b bc : Nat) (g0 : Option Nat) (l0 : List Item) (pu pk : Int) (pre : List Item) (x : Item) (W : World) : Prop :=
  ∃ rest, St fp F lt I G B b bc g0 l0 pu pk (pre ++ [x]) rest W ∧ ∀ y ∈ rest, lt y x = false
/-- what a round keeps -/
def Kp (I : World → Prop) (b bc : Nat) (g0 : Option Nat) (A W : World) : Prop :=
  A.heap.size ≤ W.heap.size ∧ (∀ k, k = b ∨ g0 = some k ∨ k = bc → W.heap[k]? = A.heap[k]?) ∧ (I A → I W)
def hlen (w : World) (b : Nat) : Nat := match w.cell? ⟨b, 0, none⟩ with
  | some (.slice _ n _) => n
  | _ => 0
include hC
theorem hlen_of {B : Nat} {w : World} {b : Nat} {lv : Value} {l : List Item} {pu pk : Int} (h : HeapT fp F I G B w b lv l pu pk) : hlen w b = l.length := by
  obtain ⟨A, cap, rfl, _⟩ := h.slice
  have c0 := cell_at h.blk 0
  simp only [List.getElem?_toArray, List.getElem?_cons_zero] at c0
  unfold hlen
  rw [c0]
theorem St.in_ {B b bc : Nat} {g0 : Option Nat} {l0 : List Item} {pu pk : Int} {pre rest : List Item} {W : World} (h : St fp F lt I G B b bc g0 l0 pu pk pre rest W) : ∀ k, k = b ∨ g0 = some k ∨ k = bc ∨ G k → k < W.heap.size := by
  obtain ⟨lv, h1, h2, h3, h4, h5⟩ := h
  rintro k (rfl | h | rfl | h)
  · exact block_lt h1.blk
  · exact (h1.row.lt k (h3.trans h)).2
  · exact block_lt h5
  · exact hC.lt _ k h1.inv h
theorem St.kept {B b bc : Nat} {g0 : Option Nat} {l0 : List Item} {pu pk : Int} {pre rest : List Item} {W W' : World} (h : St fp F lt I G B b bc g0 l0 pu pk pre rest W) (hk : Kp I b bc g0 W W') : St fp F lt I G B b bc g0 l0 pu pk pre rest W' := by
  obtain ⟨lv, h1, h2, h3, h4, h5⟩ := h
  refine ⟨lv, ⟨h1.base, (hk.2.1 b (.inl rfl)).trans h1.blk, own_keep h1.row (fun k hk' => hk.2.1 k (.inr (.inl (by rw [← h3, hk'])))), h1.small, h1.num, hk.2.2 h1.inv, h1.far⟩, h2, h3, h4, (hk.2.1 bc (.inr (.inr rfl))).trans h5⟩

theorem St.own {D B b bc : Nat} {g0 : Option Nat} {l0 : List Item} {pu pk : Int} (hGD : ∀ k, G k → k < D) {rest : List Item} : OwnFrom D fun pre => St fp F lt I G B b bc g0 l0 pu pk pre rest := by
  intro pre W W' row h hg hr
  have hcell : ∀ (k : Nat) (arr : Array Value) (t : TypeId) (fz : Nat × Nat), W.heap[k]? = some (.cells arr t fz) → W'.heap[k]? = W.heap[k]? := fun k arr t fz hk => hg.block k (block_lt hk) (fun e => by
    obtain ⟨_, o, ho, hc⟩ := hr k e.symm
    rw [hk] at ho; cases ho; cases hc)
  obtain ⟨lv, h1, h2, h3, h4, h5⟩ := h
  refine ⟨lv, h1.keep hC (fun k hk => ?_), h2, h3, h4, (hcell _ _ _ _ h5).trans h5⟩
  rcases hk with (rfl | h6) | h6
  · exact hcell _ _ _ _ h1.blk
  · rcases h1.row.2 with ⟨rfl, _⟩ | ⟨g, cap, cur, rfl, _, hgb, _⟩
    · cases h6
    · cases h6; exact hcell _ _ _ _ hgb
  · exact hg.block k (hC.lt _ k h1.inv h6) (fun e => by have := (hr k e.symm).1; have := hGD k h6; omega)
theorem Mid.own {D B b bc : Nat} {g0 : Option Nat} {l0 : List Item} {pu pk : Int} (hGD : ∀ k, G k → k < D) (x : Item) : OwnFrom D fun pre => Mid fp F lt I G B b bc g0 l0 pu pk pre x := by
  rintro pre W W' row ⟨rest, h, hb⟩ hg hr
  exact ⟨rest, St.own hC hGD _ _ _ _ h hg hr, hb⟩
theorem Kp.put {D b bc : Nat} {g0 : Option Nat} (hGD : ∀ k, G k → k < D) (hb : b < D) (hg : ∀ k, g0 = some k → k < D) (hbc : bc < D) (W : World) (l : Nat) (o o' : Obj) (hl : D ≤ l) (ho : W.heap[l]? = some o) (hc : o.isCells = false) : Kp I b bc g0 W (W.putObj l o') := by
  refine ⟨by simp, fun k hk => World.putObj_heap_other ?_, fun hI => hC.keep _ _ hI (fun k hk => World.putObj_heap_other (by have := hGD k hk; omega))⟩
  rcases hk with rfl | h | rfl
  · omega
  · have := hg k h; omega
  · omega
theorem Kp.trans {b bc : Nat} {g0 : Option Nat} {X Y Z : World} (h : Kp I b bc g0 X Y) (k : Kp I b bc g0 Y Z) : Kp I b bc g0 X Z := ⟨Nat.le_trans h.1 k.1, fun q hq => (k.2.1 q hq).trans (h.2.1 q hq), fun hI => k.2.2 (h.2.2 hI)⟩
theorem Kp.of {b bc : Nat} {g0 : Option Nat} {W W' : World} (hs : W.heap.size ≤ W'.heap.size) (hk : ∀ k, k = b ∨ g0 = some k ∨ k = bc ∨ G k → W'.heap[k]? = W.heap[k]?) : Kp I b bc g0 W W' :=
  ⟨hs, fun k h => hk k (by rcases h with h | h | h <;> simp [h]), fun hI => hC.keep _ _ hI (fun k h => hk k (by simp [h]))⟩

set_option maxHeartbeats 3200000 in
set_option maxRecDepth 100000 in
theorem drain1_seq {B : Nat} {w : World} {b bc : Nat} {g0 : Option Nat} {l0 : List Item} {pu pk : Int} (h : St fp F lt I G B b bc g0 l0 pu pk [] l0 w) (hbc : bc ≠ b ∧ g0 ≠ some bc) (hbcG : ∀ k, G k → k ≠ bc) (n : Nat) (hn : 4 ≤ n) :
    SeqSt Fence.wide n Try.prog 81 #[.pointer (some ⟨bc, 0, none⟩)] (fun x => #[val x]) (fun k => k = b ∨ g0 = some k) (Mid fp F lt I G B b bc g0 l0 pu pk) (fun xs => St fp F lt I G B b bc g0 l0 pu pk xs []) (Kp I b bc g0) w := by
  intro l J Jx W hW hJ hY hJ0
  have hS0 : St fp F lt I G B b bc g0 l0 pu pk [] l0 W := by
    obtain ⟨lv, h1, h2, h3, h4, h5⟩ := h
    exact ⟨lv, h1.keep hC (fun k hk => hW.block k (by
      rcases hk with h6 | h6
      · exact (h1.foot_lt hC k h6).2
      · exact hC.lt _ k h1.inv h6) (by simp)), h2, h3, h4, (hW.block _ (block_lt h5) (by simp)).trans h5⟩
  clear h hW
  refine callsIn_of_wp Try.func81 rfl trivial ?_ rfl
  simp only [Try.ntmps81, List.size_toArray, List.length_cons, List.length_nil, Nat.reduceAdd, Nat.reduceSub, Array.replicate_succ, Array.replicate_zero, List.push_toArray, List.append_toArray, List.nil_append, List.cons_append]
  gi_wp2
  gi_loopw [5] (fun v5 wr => ∃ (pre rest : List Item), St fp F lt I G B b bc g0 l0 pu pk pre rest wr ∧ J pre wr) (fun v5 wr => hlen wr b)
  case atStart => exact ⟨[], l0, hS0, hJ0⟩
  case round =>
    obtain ⟨pre, rest, hS, hj⟩ := hrel
    obtain ⟨lv, h1, h2, h3, h4, h5⟩ := hS
    have cb := cell_at h5 0
    simp only [List.getElem?_toArray, List.getElem?_cons_zero] at cb
    have HLEN := Lib.hid (hlen_of hC h1)
    cases rest with
    | nil =>
      have hsz5 := block_lt h5
      gi_wp2
      refine ⟨trivial, fun _ => by omega, ?_⟩
      refine (callsIn_wide.2 (pop_none hC h1)).mono ?_
      rintro e w1 ⟨rfl, b1⟩
      have hS1 : St fp F lt I G B b bc g0 l0 pu pk pre [] (w1.alloc (.cells #[.int .i64 0, .int .i64 0, .int .i64 0] 48)) := by
        have b1' := b1.alloc b1.size (.cells #[.int .i64 0, .int .i64 0, .int .i64 0] 48)
        exact ⟨lv, h1.below hC b1', h2, h3, h4, (b1'.block _ hsz5).trans h5⟩
      have hj1 : J pre (w1.alloc (.cells #[.int .i64 0, .int .i64 0, .int .i64 0] 48)) := hJ pre wr _ hj (Upd.of_below (b1.alloc b1.size _))
      unfold val
      gi_wp2
      refine ⟨fun _ h => (by cases h), ?_⟩
      gi_wp2
      refine bodyPost_ret (results_none rfl _ _ _) rfl ?_
      exact ⟨⟨_, rfl⟩, .inl ⟨pre, hS1, hj1⟩⟩
    | cons x rest =>
      have hsz5 := block_lt h5
      gi_wp2
      refine ⟨trivial, fun _ => by omega, ?_⟩
      refine (callsIn_wide.2 (pop_some hC h1 h2)).mono ?_
      rintro e w1 ⟨rfl, l1, lv1, p1, p2, p3, p4, p5⟩
      obtain ⟨⟨xa, xb⟩, xc⟩ := x
      have hlb : ∀ q, HFoot b lv q → q = b ∨ g0 = some q := fun q hq => by
        rcases hq with h6 | h6
        · exact .inl h6
        · exact .inr (by rw [← h3, h6])
      have hal : Below w1.heap.size w1 (w1.alloc (.cells #[.int .i64 xa, .int .i64 xb, .int .i64 xc] 48)) := (Below.refl _ _).alloc (Nat.le_refl _) _
      have hU : Upd (fun k => k = b ∨ g0 = some k) (fun k => k = b ∨ g0 = some k) wr (w1.alloc (.cells #[.int .i64 xa, .int .i64 xb, .int .i64 xc] 48)) :=
        ⟨p4.os, p4.tape, p4.output, Nat.le_trans p4.size (by simp), fun k hk hf => (Below.heap_alloc _ _ _ (Nat.lt_of_lt_of_le hk p4.size)).trans (p4.block k hk (fun h6 => hf (hlb k h6))), fun k hk => .inl hk⟩
      have hj1 := hJ pre wr _ hj hU
      have hperm : (pre ++ [((xa, xb), xc)] ++ l1).Perm l0 := by
        rw [List.append_assoc]
        exact (List.Perm.append_left pre p1).trans h4
      have hbest : ∀ y ∈ l1, lt y ((xa, xb), xc) = false := fun y hy => heap_root_mem hC.ord h2 rfl (p1.subset (List.mem_cons_of_mem _ hy))
      have hS1 : St fp F lt I G B b bc g0 l0 pu pk (pre ++ [((xa, xb), xc)]) l1 (w1.alloc (.cells #[.int .i64 xa, .int .i64 xb, .int .i64 xc] 48)) :=
        ⟨lv1, p3.below hC hal, p2, p5.trans h3, hperm, (hU.block bc hsz5 (fun h6 => by
          rcases h6 with h7 | h7
          · exact hbc.1 h7
          · exact hbc.2 h7)).trans h5⟩
      have hM : Mid fp F lt I G B b bc g0 l0 pu pk pre ((xa, xb), xc) (w1.alloc (.cells #[.int .i64 xa, .int .i64 xb, .int .i64 xc] 48)) := ⟨l1, hS1, hbest⟩
      have hlen1 := hlen_of hC (p3.below hC hal)
      have hll : l1.length = rest.length := by have := p1.length_eq; simpa using this
      obtain ⟨fn, tmps, assign, body, hy, hR⟩ := hY pre ((xa, xb), xc) _ hj1 hM
      have HR := Lib.hid hR
      have HS1 := Lib.hid hS1
      have HLL := Lib.hid hll
      have HL1 := Lib.hid hlen1
      clear hR hS1 hM hbest hperm hj1 hU hll hlen1 p1 p2 p3 p4 p5 h1 h2 h3 h4 h5 hj
      have x0 := cell_at (heap_alloc_new w1 (.cells #[.int .i64 xa, .int .i64 xb, .int .i64 xc] 48)) 0
      have x1 := cell_at (heap_alloc_new w1 (.cells #[.int .i64 xa, .int .i64 xb, .int .i64 xc] 48)) 1
      have x2 := cell_at (heap_alloc_new w1 (.cells #[.int .i64 xa, .int .i64 xb, .int .i64 xc] 48)) 2
      simp only [List.getElem?_toArray, List.getElem?_cons_zero, List.getElem?_cons_succ] at x0 x1 x2
      unfold val at hy
      unfold val
      gi_wp2
      refine ⟨fun _ => by omega, ?_⟩
      refine HR.out.mono ?_
      rintro e W3 (⟨rfl, hJ3, hk3⟩ | ⟨rfl, hJx3⟩)
      · have hS3 := HS1.out.kept hC hk3
        gi_wp2
        go_roundw
        case rel => exact ⟨pre ++ [((xa, xb), xc)], l1, hS3, hJ3⟩
        case measure =>
          obtain ⟨lv3, q1, _⟩ := hS3
          rw [hlen_of hC q1, HLEN.out]
          have := HLL.out
          simp
          omega
      · gi_wp2
        refine bodyPost_ret (results_none rfl _ _ _) rfl ?_
        exact ⟨⟨_, rfl⟩, .inr ⟨pre ++ [((xa, xb), xc)], hJx3⟩⟩
/-- the range over a heap's items -/
theorem wpIn_drain {n : Nat} (hn : 6 ≤ n) {g : Operand} {ps : Array Tmp} {assign body : Code} {Q : Exit → Act → World → Prop} {a : Act} {w : World} {B b bc : Nat} {g0 : Option Nat} {l0 : List Item} {pu pk : Int}
    (hSt : St fp F lt I G B b bc g0 l0 pu pk [] l0 w) (hbc : bc ≠ b ∧ g0 ≠ some bc) (hbcG : ∀ k, G k → k ≠ bc) (hg : a.eval g = .func (.func 81) #[] #[.pointer (some ⟨bc, 0, none⟩)]) (hps : ps.size = 1)
    (Iv : List Item → World → Prop) (Ix : Code → List Item → World → Prop) (hI : OwnFrom w.heap.size Iv) (hIx : ∀ c, OwnFrom w.heap.size (Ix c)) (h0 : Iv [] w) (hIF : ∀ pre A B, Iv pre A → Upd (fun k => k = b ∨ g0 = some k) (fun k => k = b ∨ g0 = some k) A B → Iv pre B)
    (Ax : Item → Act → World → Prop) (hAx : ∀ x a', OwnFrom w.heap.size fun (_ : Unit) W => Ax x a' W)
    (hassign : ∀ (l : Nat) (pre : List Item) (x : Item) (W : World) (K : Act → World → Prop), Iv pre W → Mid fp F lt I G B b bc g0 l0 pu pk pre x W → (∀ a' W', KeepsFrom w.heap.size W W' → Kp I b bc g0 W W' → Iv pre W' → Ax x a' W' → K a' W') →
      assign.wpIn (Fence.wide.inRound l) (n - 1 - 1) Try.prog (Exit.then K fun _ _ _ => False) { tmps := (ps.zip #[val x]).foldl (fun t (p, v) => t.setIfInBounds p v) a.tmps, defers := [] } W)
    (hbody : ∀ (l : Nat) (pre : List Item) (x : Item) (a' : Act) (W : World), w.heap.size ≤ l → Iv pre W → Mid fp F lt I G B b bc g0 l0 pu pk pre x W → Ax x a' W → body.wpIn (Fence.wide.inRound l) (n - 1 - 1) Try.prog (ownPostG w.heap.size (Kp I b bc g0) Iv Ix (pre ++ [x]) W) a' W)
    (hdone : ∀ (D : Nat) (xs : List Item) (W : World), w.heap.size ≤ D → St fp F lt I G B b bc g0 l0 pu pk xs [] W → Iv xs W → W.heap[D]? = some (.deferred (some [])) → Q .normal { a with defers := { target := .collected D, args := #[] } :: a.defers } W)
    (hstop : ∀ (D : Nat) (c : Code) (pre : List Item) (W : World), w.heap.size ≤ D → Ix c pre W → W.heap[D]? = some (.deferred (some [])) → c.wpIn Fence.wide n Try.prog Q { a with defers := { target := .collected D, args := #[] } :: a.defers } W) :
    (Code.rangeFunc g ps assign body).wpIn Fence.wide n Try.prog Q a w := by
  obtain ⟨lv, s1, s2, s3, s4, s5⟩ := hSt
  have hGD : ∀ k, G k → k < w.heap.size := fun k h => hC.lt _ k s1.inv h
  have hbl := block_lt s1.blk
  have hbcl := block_lt s5
  have hgl : ∀ k, g0 = some k → k < w.heap.size := fun k h => (s1.row.lt k (s3.trans h)).2
  exact wpIn_rangeFunc_st rfl (by omega) (gf := 81) (lb := #[.pointer (some ⟨bc, 0, none⟩)]) hg trivial (enters_of Try.func81 (by kernel_rfl) rfl)
    (encs := fun x => #[val x]) (fun _ => hps.symm) (Kp := Kp I b bc g0) (Ft := fun k => k = b ∨ g0 = some k) (by
      rintro k (rfl | h)
      · exact hbl
      · exact hgl k h)
    (fun x => Mid.own hC hGD x) (fun xs W W' row h hg hr => St.own hC hGD xs W W' row h hg hr) (fun h k => Kp.trans hC h k) (fun W l o o' hl ho hc => Kp.put hC hGD hbl hgl hbcl W l o o' hl ho hc)
    (drain1_seq hC ⟨lv, s1, s2, s3, s4, s5⟩ hbc hbcG (n - 1) (by omega)) Iv Ix hI hIx h0 hIF Ax hAx
    (fun l pre x W K hi hm hk => hassign l pre x W K hi hm fun a' W' k1 k2 k3 k4 => hk a' W' k1 k2 k3 (by
      obtain ⟨rest, m1, m2⟩ := hm
      exact ⟨rest, m1.kept hC k2, m2⟩) k4) hbody hdone hstop
end
end Go.Proofs.Ythpdamkpefgmaaa.Heap3
