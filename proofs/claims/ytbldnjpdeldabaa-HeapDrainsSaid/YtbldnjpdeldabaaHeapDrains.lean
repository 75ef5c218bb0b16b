/- HeapDrains: drained, as far as one likes, no item is better than the one ahead of it, each is one that was there, and the rest is left. No condition. -/
import Derived.Test.YtbldnjpdeldabaaRefHeap2
import Derived.Test.YtbldnjpdeldabaaHeapSame
import Derived.Sort.QuietIn
import Derived.StillTailTactics
namespace Go.Proofs.Ytbldnjpdeldabaa.HeapDrains
open Go.RowKit Go.ChangeShapes Go.WideShapes Go.Deep Go.Shelf Go.Proofs.YtbldnjpdeldabaaW.PrintWords Go.Proofs.YtbldnjpdeldabaaW.PrintLast Go.Proofs.YtbldnjpdeldabaaW.PrintMore Base Foot Src RangeSt HeapPure Heap Kinds RefHeap
set_option linter.unusedVariables false
set_option linter.unusedSimpArgs false
attribute [local go_sem ↓] Go.wp_at_zero Go.wp_at_succ
attribute [local go_sem] Oper.semAt_some

theorem buildX (A : Option Addr) (n c : Nat) (w : World) : (Instr.build 61 #[(0, .slice A n c)]).run Try.prog w = .ok (.agg #[.slice A n c, .int .i64 0, .int .i64 0]) w := run_build w _ _ _ (by kernel_rfl)
attribute [-go_sem] Instr.build
attribute [local go_sem high] buildX

theorem own_slice {w : World} {B : Nat} {t : TypeId} {m : Nat} {v : Value} {n : Nat} {cs : List Value} (h : w.ownsRow B t m v n cs) : ∃ A cap, v = .slice A n cap := by
  rcases h.2 with ⟨rfl, h0⟩ | ⟨g, cap, cur, rfl, _⟩
  · exact ⟨none, 0, by rw [h0]⟩
  · exact ⟨_, _, rfl⟩
theorem RH.own {B : Nat} {W W' : World} {row : Option Nat} {D c : Nat} {lv : Value} {m : List Heap.Item} {pu pk : Int} (h : RH B W c lv m pu pk) (hg : W.grownBy W' row) (hr : ∀ r, row = some r → D ≤ r ∧ ∃ o : Obj, W.heap[r]? = some o ∧ o.isCells = false) : RH B W' c lv m pu pk :=
  h.keep fun k hk => by
    rcases hk with rfl | hk
    · exact cells_own hg hr h.blk
    · rcases h.row.2 with ⟨rfl, _⟩ | ⟨g, cap, cur, rfl, _, hgb, _⟩
      · cases hk
      · cases hk; exact cells_own hg hr hgb
theorem keeps_upd {B c : Nat} {W W' : World} {lv lv' : Value} {m : List Heap.Item} {pu pk : Int} (h : RH B W c lv m pu pk) (hu : Upd (HFoot c lv) (HFoot c lv') W W') : KeepsOthers W W' :=
  ⟨hu.size, fun k o hk ho => by
    have hno : ¬ HFoot c lv k := by
      rintro (rfl | h2)
      · have := h.blk; rw [this] at hk; cases hk; cases ho
      · have := own_cells h.row h2 hk; rw [this] at ho; cases ho
    exact (hu.block k (block_lt hk) hno).trans hk⟩

/-- the law's own cells: few, the result, the pointer to the reference, how many have come; and the reference -/
def Core (w : World) (few C c b bc px pk : Nat) (g0 : Option Nat) (l0 : List Heap.Item) (pre : List Heap.Item) (W : World) : Prop :=
  Below w.heap.size w W ∧ W.heap[w.heap.size]? = some (.cells #[.int .u8 (few : Int)] 5 (0, 0)) ∧ W.heap[w.heap.size + 1]? = some (.cells #[.bool false] 4 (0, 0)) ∧
    W.heap[px]? = some (.cells #[.pointer (some ⟨c, 0, none⟩)] 59 (0, 0)) ∧ W.heap[pk]? = some (.cells #[.int .i64 (pre.length : Int)] 3 (0, 0)) ∧
    ∃ m lv, RH C W c lv m 0 0 ∧ (pre ++ m).Perm l0 ∧ ∀ q, HFoot c lv q → q ≠ b ∧ g0 ≠ some q ∧ q ≠ bc ∧ q ≠ w.heap.size ∧ q ≠ w.heap.size + 1 ∧ q ≠ px ∧ q ≠ pk
theorem Core.own {w : World} {few C c b bc px pk D : Nat} {g0 : Option Nat} {l0 : List Heap.Item} (hD : w.heap.size ≤ D) : OwnFrom D (Core w few C c b bc px pk g0 l0) := by
  rintro pre W W' row ⟨h2, k0, k1, kx, kk, m, lv, hR, hp, ha⟩ hg hr
  exact ⟨h2.grown hg h2.size (fun k e => Nat.le_trans hD (hr k e).1), (cells_own hg hr k0).trans k0, (cells_own hg hr k1).trans k1, (cells_own hg hr kx).trans kx, (cells_own hg hr kk).trans kk, m, lv, RH.own hR hg hr, hp, ha⟩
theorem Core.upd {w : World} {few C c b bc px pk : Nat} {g0 : Option Nat} {l0 : List Heap.Item} (hb : ∀ k, k = b ∨ g0 = some k → w.heap.size ≤ k ∧ k ≠ w.heap.size ∧ k ≠ w.heap.size + 1 ∧ k ≠ px ∧ k ≠ pk) (pre : List Heap.Item) (A B : World) (h : Core w few C c b bc px pk g0 l0 pre A) (hu : Upd (fun k => k = b ∨ g0 = some k) (fun k => k = b ∨ g0 = some k) A B) : Core w few C c b bc px pk g0 l0 pre B := by
  obtain ⟨h2, k0, k1, kx, kk, m, lv, hR, hp, ha⟩ := h
  refine ⟨h2.trans (hu.below h2.size fun k hk => (hb k hk).1), (hu.block _ (block_lt k0) fun h => (hb _ h).2.1 rfl).trans k0, (hu.block _ (block_lt k1) fun h => (hb _ h).2.2.1 rfl).trans k1, (hu.block _ (block_lt kx) fun h => (hb _ h).2.2.2.1 rfl).trans kx, (hu.block _ (block_lt kk) fun h => (hb _ h).2.2.2.2 rfl).trans kk, m, lv, hR.keep (fun q hq => hu.block q (hR.foot_lt q hq).2 fun h => ?_), hp, ha⟩
  rcases h with h | h
  · exact (ha q hq).1 h
  · exact (ha q hq).2.1 h

set_option maxHeartbeats 3200000 in
set_option maxRecDepth 100000 in
theorem law_any (A : Option Addr) (cp : Nat) (l : List (Int × Int)) (few : Nat) (w : World) (hr : Kd.C kII w A l.length l) (hl : l.length ≤ 200) (hf : few < 256) :
    Calls Try.prog 6 #[.slice A l.length cp, .int .u8 (few : Int)] w fun e w' => e = .returned (.bool true) ∧ Below w.heap.size w w' := by
  obtain ⟨i0, hi, hz0, hz1, hz2⟩ := info_parts infoI
  have hfe := fs_eq
  have hsrc0 := HeapSame.src_II hr
  have b0 : Below w.heap.size w ((w.alloc (.cells #[.int .u8 (few : Int)] 5)).alloc (.cells #[.bool false] 4)) := ((Below.refl _ _).alloc (Nat.le_refl _) _).alloc (by simp) _
  have k0 := alloc_blk (x := .cells #[.bool false] 4) (heap_alloc_new w (.cells #[.int .u8 (few : Int)] 5))
  have k1 : ((w.alloc (.cells #[.int .u8 (few : Int)] 5)).alloc (.cells #[.bool false] 4)).heap[w.heap.size + 1]? = some (.cells #[.bool false] 4 (0, 0)) := by
    have := heap_alloc_new (w.alloc (.cells #[.int .u8 (few : Int)] 5)) (.cells #[.bool false] 4)
    simpa using this
  have hsrc1 := hsrc0.below b0
  refine (callsIn_wide (n := 20)).1 ?_
  refine callsIn_of_wp_marks Try.func6 rfl trivial ?_ rfl
  refine wpIn_wide.2 ?_
  simp only [Try.ntmps6, List.size_toArray, List.length_cons, List.length_nil, Nat.reduceAdd, Nat.reduceSub, Array.replicate_succ, Array.replicate_zero, List.push_toArray, List.append_toArray, List.nil_append, List.cons_append]
  go_wp2_with fail
  generalize (w.alloc (.cells #[.int .u8 (few : Int)] 5)).alloc (.cells #[.bool false] 4) = w0 at *
  refine (awake_any _).mono ?_
  rintro e w1 ⟨rfl, b1⟩
  replace k0 := (b1.block _ (block_lt k0)).trans k0
  replace k1 := (b1.block _ (block_lt k1)).trans k1
  have b01 := b0.trans (b1.mono b0.size)
  replace hsrc1 := hsrc1.below b1
  have hs1 := block_lt k1
  go_wp2_with fail
  refine (lawof_any A cp l w1 hsrc1 (by omega)).mono ?_
  rintro e w2 ⟨b, rfl, l1, lv1, p1, p2, p3, b2⟩
  replace k0 := (b2.block _ (block_lt k0)).trans k0
  replace k1 := (b2.block _ (block_lt k1)).trans k1
  have b02 := b01.trans (b2.mono b01.size)
  have hsrc2 := hsrc1.below b2
  have ho := own_empty w2 w2.heap.size 66 2 (Nat.le_refl _)
  have hsrc3 := hsrc2.alloc (.cells #[] 66)
  have hB := p3.base
  have hlt1 := p3.row.lt
  have hbw := block_lt p3.blk
  clear hsrc0 hsrc1 hsrc2 b0 b1 b2 b01
  generalize w1.heap.size = B at *
  go_wp2_with (at_builtin; refine wpList_append_src _ rfl _ _ 56 rfl w2.heap.size 66 i0 _ 2 16 Try.underlying56 hi hz0 hz1 hz2 rfl (by decide) _ _ _ (by rfl) ho _ _ _ _ (by rfl) hsrc3 (enc_one l) (by unfold maxLen; omega) (by omega) (by simp) ?_; intro v' w3 hown3 hgrow3 hat3; simp only [Nat.zero_add, List.nil_append] at hown3; obtain ⟨A2, cap2, rfl⟩ := own_slice hown3)
  have b3 : Below w2.heap.size w2 w3 := ((Below.refl _ _).alloc (Nat.le_refl _) _).grown hgrow3 (by simp) (fun k hk => by cases hk; exact Nat.le_refl _)
  have hz2w := b02.size
  have hz3 := b3.size
  have a6 : Below w3.heap.size w3 (((w3.alloc (.cells #[.slice A2 l.length cap2, .int .i64 0, .int .i64 0] 61)).alloc (.cells #[.pointer (some ⟨w3.heap.size, 0, none⟩)] 59)).alloc (.cells #[.int .i64 0] 3)) :=
    (((Below.refl _ _).alloc (Nat.le_refl _) _).alloc (by simp) _).alloc (by simp; omega) _
  have b6 := b3.trans (a6.mono hz3)
  have h6 := p3.below cmp1 b6
  have kc : (((w3.alloc (.cells #[.slice A2 l.length cap2, .int .i64 0, .int .i64 0] 61)).alloc (.cells #[.pointer (some ⟨w3.heap.size, 0, none⟩)] 59)).alloc (.cells #[.int .i64 0] 3)).heap[w3.heap.size]? = some (.cells #[.slice A2 l.length cap2, .int .i64 0, .int .i64 0] 61 (0, 0)) := alloc_blk (alloc_blk (heap_alloc_new _ _))
  have kx : (((w3.alloc (.cells #[.slice A2 l.length cap2, .int .i64 0, .int .i64 0] 61)).alloc (.cells #[.pointer (some ⟨w3.heap.size, 0, none⟩)] 59)).alloc (.cells #[.int .i64 0] 3)).heap[w3.heap.size + 1]? = some (.cells #[.pointer (some ⟨w3.heap.size, 0, none⟩)] 59 (0, 0)) := by
    have := heap_alloc_new (w3.alloc (.cells #[.slice A2 l.length cap2, .int .i64 0, .int .i64 0] 61)) (.cells #[.pointer (some ⟨w3.heap.size, 0, none⟩)] 59)
    exact alloc_blk (by simpa using this)
  have kk : (((w3.alloc (.cells #[.slice A2 l.length cap2, .int .i64 0, .int .i64 0] 61)).alloc (.cells #[.pointer (some ⟨w3.heap.size, 0, none⟩)] 59)).alloc (.cells #[.int .i64 0] 3)).heap[w3.heap.size + 2]? = some (.cells #[.int .i64 0] 3 (0, 0)) := by
    have := heap_alloc_new ((w3.alloc (.cells #[.slice A2 l.length cap2, .int .i64 0, .int .i64 0] 61)).alloc (.cells #[.pointer (some ⟨w3.heap.size, 0, none⟩)] 59)) (.cells #[.int .i64 0] 3)
    simpa using this
  have hR6 : RH w2.heap.size (((w3.alloc (.cells #[.slice A2 l.length cap2, .int .i64 0, .int .i64 0] 61)).alloc (.cells #[.pointer (some ⟨w3.heap.size, 0, none⟩)] 59)).alloc (.cells #[.int .i64 0] 3)) w3.heap.size (.slice A2 l.length cap2) l 0 0 :=
    ⟨hz3, kc, own_keep hown3 (fun q hq => a6.block q (hown3.lt q hq).2), by omega, by omega⟩
  have hfr := fun q hq => (hown3.lt q hq)
  replace k0 := (b6.block _ (block_lt k0)).trans k0
  replace k1 := (b6.block _ (block_lt k1)).trans k1
  have b06 := b02.trans (b6.mono hz2w)
  have hz6 : w3.heap.size + 3 = (((w3.alloc (.cells #[.slice A2 l.length cap2, .int .i64 0, .int .i64 0] 61)).alloc (.cells #[.pointer (some ⟨w3.heap.size, 0, none⟩)] 59)).alloc (.cells #[.int .i64 0] 3)).heap.size := by simp
  clear p3 b3 hgrow3 hown3 hat3 ho hsrc3 a6 b6 b02 kc
  go_wp2_with fail
  generalize ((w3.alloc (.cells #[.slice A2 l.length cap2, .int .i64 0, .int .i64 0] 61)).alloc (.cells #[.pointer (some ⟨w3.heap.size, 0, none⟩)] 59)).alloc (.cells #[.int .i64 0] 3) = w6 at *
  generalize w3.heap.size = c at *
  generalize hC : w2.heap.size = C at *
  refine (drain_any b w6).mono ?_
  rintro e w7 ⟨rfl, rfl⟩
  have hal := (Below.refl w6.heap.size w6).alloc (Nat.le_refl _) (.cells #[.pointer (some ⟨b, 0, none⟩)] 57)
  have hSt : St 72 ltB IT GF B b w6.heap.size lv1.ownBlock l1 0 (l.length : Int) [] l1 (w6.alloc (.cells #[.pointer (some ⟨b, 0, none⟩)] 57)) :=
    ⟨lv1, h6.below cmp1 hal, p2, rfl, List.Perm.refl _, heap_alloc_new _ _⟩
  have hbc1 : w6.heap.size ≠ b ∧ lv1.ownBlock ≠ some w6.heap.size := ⟨by omega, fun e => by have := (hlt1 _ e).2; omega⟩
  have hI0 : Core w few C c b w6.heap.size (c + 1) (c + 1 + 1) lv1.ownBlock l1 [] (w6.alloc (.cells #[.pointer (some ⟨b, 0, none⟩)] 57)) :=
    ⟨b06.alloc b06.size _, alloc_blk k0, alloc_blk k1, alloc_blk kx, alloc_blk kk, l, _, hR6.below hal, p1.symm, fun q hq => by
      have hq2 : C ≤ q ∧ q < c + 1 := by
        rcases hq with rfl | hq
        · omega
        · have := hfr q hq; omega
      have : ∀ z, lv1.ownBlock = some z → z < C := fun z e => (hlt1 z e).2
      refine ⟨by omega, fun e => by have := this _ e; omega, by omega, by omega, by omega, by omega, by omega⟩⟩
  have hupd : ∀ k, k = b ∨ lv1.ownBlock = some k → w.heap.size ≤ k ∧ k ≠ w.heap.size ∧ k ≠ w.heap.size + 1 ∧ k ≠ c + 1 ∧ k ≠ c + 1 + 1 := by
    rintro k (rfl | h)
    · omega
    · have := hlt1 k h; omega
  have hsz7 : w.heap.size ≤ (w6.alloc (.cells #[.pointer (some ⟨b, 0, none⟩)] 57)).heap.size := by simp; omega
  have hll := p1.length_eq
  have hbcc : w6.heap.size ≠ c + 1 + 1 := by omega
  clear h6 hal k0 k1 kx kk hR6 b06
  go_wp2_with fail
  generalize (w6.alloc (.cells #[.pointer (some ⟨b, 0, none⟩)] 57)) = w7 at *
  generalize w6.heap.size = bc at *
  generalize lv1.ownBlock = g0 at *
  refine (wpIn_wide (n := 20)).1 ?_
  refine wpIn_drain cmp1 (by omega) hSt hbc1 (fun k h => h.elim) rfl rfl (fun pre W => Core w few C c b bc (c + 1) (c + 1 + 1) g0 l1 pre W ∧ pre.length ≤ few)
    (fun e pre W => e = .exit 0 ∧ Core w few C c b bc (c + 1) (c + 1 + 1) g0 l1 pre W ∧ pre.length = few + 1 ∧ ∃ rest, St 72 ltB IT GF B b bc g0 l1 0 (l.length : Int) pre rest W) ?own ?ownx ⟨hI0, by simp⟩ ?upd
    (fun x a' W => ∃ Bx, W.heap[Bx]? = some (.cells #[.int .i64 x.1, .int .i64 x.2] 66 (0, 0)) ∧ a' = { tmps := #[.slice A l.length cp, .int .u8 (few : Int), undef, .pointer (some ⟨w.heap.size, 0, none⟩), .pointer (some ⟨w.heap.size + 1, 0, none⟩), .pointer (some ⟨b, 0, none⟩), .pointer (some ⟨c + 1, 0, none⟩), .pointer (some ⟨c + 1 + 1, 0, none⟩), .func (.func 73) #[] #[.pointer (some ⟨bc, 0, none⟩)], .pointer (some ⟨Bx, 0, none⟩), undef, undef, .bool true, .bool false, .slice A l.length cp, .int .i64 (l.length : Int), .bool (decide (200 < (l.length : Int))), .slice A l.length cp, .pointer (some ⟨b, 0, none⟩), .slice (some ⟨C, 0, none⟩) 0 0, .slice A l.length cp, .slice A2 l.length cap2, .agg #[.slice A2 l.length cap2, .int .i64 0, .int .i64 0], .pointer (some ⟨c, 0, none⟩), .pointer (some ⟨b, 0, none⟩), .func (.func 73) #[] #[.pointer (some ⟨bc, 0, none⟩)], .func (.func 73) #[] #[.pointer (some ⟨bc, 0, none⟩)], .bool false, .func (.func 73) #[] #[.pointer (some ⟨bc, 0, none⟩)], .agg #[.int .i64 x.1, .int .i64 x.2], undef, undef, undef, undef, undef, undef, undef, undef, undef, undef, undef, undef, undef, undef, undef, undef, undef, undef, undef, undef, undef, undef, undef, undef, undef, undef, undef, undef, undef, undef, undef, undef, undef, undef, undef, undef, undef, undef, undef, undef, undef, undef], defers := [] })
    (fun x a' u W W' row h hg hr => by obtain ⟨Bx, h1, h2⟩ := h; exact ⟨Bx, (cells_own hg hr h1).trans h1, h2⟩) ?assign ?body ?done ?stop
  case own => exact fun pre W W' row h hg hr => ⟨Core.own hsz7 pre W W' row h.1 hg hr, h.2⟩
  case ownx => exact fun e pre W W' row h hg hr => ⟨h.1, Core.own hsz7 pre W W' row h.2.1 hg hr, h.2.2.1, by obtain ⟨rest, hs⟩ := h.2.2.2; exact ⟨rest, St.own cmp1 (fun k h => h.elim) _ _ _ _ hs hg hr⟩⟩
  case upd => exact fun pre X Y h hu => ⟨Core.upd hupd pre X Y h.1 hu, h.2⟩
  case assign =>
    rintro l' pre ⟨xa, xb⟩ W K hI ⟨rest, hM, _⟩ hK
    have hlt := St.in_ cmp1 hM
    unfold val
    gi_wp2
    exact hK _ _ ((KeepsOthers.alloc _ _).from _) (Kp.of cmp1 (by simp) (fun k hk => Below.heap_alloc _ _ _ (hlt k hk))) ⟨Core.own hsz7 |>.alloc _ hI.1, hI.2⟩ ⟨_, heap_alloc_new _ _, rfl⟩
  case body =>
    rintro l' pre ⟨xa, xb⟩ a' W hl' ⟨⟨hb, k0, k1, kx, kk, m, lv, hR, hp, ha⟩, hle⟩ ⟨rest, hM, hbest⟩ ⟨Bx, hBx, rfl⟩
    have hlt := St.in_ cmp1 hM
    have hpm : m.Perm ((xa, xb) :: rest) := by
      obtain ⟨_, _, _, _, hp2, _⟩ := hM
      rw [List.append_assoc] at hp2
      exact (List.perm_append_left_iff pre).1 (hp.trans hp2.symm)
    have hpos : 0 < m.length := by rw [hpm.length_eq]; simp
    have hmem : (xa, xb) ∈ m := hpm.mem_iff.2 (by simp)
    have hmax : IsMax xa m := ⟨fun y hy => by
      rcases List.mem_cons.1 (hpm.mem_iff.1 hy) with h | h
      · rw [h]; exact Int.le_refl _
      · have := hbest y h; simpa [ltB] using this, (xa, xb), hmem, rfl⟩
    have x0 := cell_at kx 0
    have y0 := cell_at hBx 0
    have y1 := cell_at hBx 1
    simp only [List.getElem?_toArray, List.getElem?_cons_zero, List.getElem?_cons_succ] at x0 y0 y1
    gi_wp2
    refine ⟨trivial, ?_⟩
    refine (CallsIn.inRound l' (callsIn_wide.2 (most_some hR hpos))).mono ?_
    rintro e W2 ⟨mm, hm, rfl, rfl⟩
    obtain rfl : xa = mm := hmax.uniq hm
    gi_wp2
    refine ⟨trivial, ?_⟩
    refine (CallsIn.inRound l' (callsIn_wide.2 (drop_any hR (xa, xb) hmem))).mono ?_
    rintro e W3 ⟨rfl, m4, u4, s1, hR4, s4⟩
    have j0 := (s4.block _ (block_lt k0) (fun h => (ha _ h).2.2.2.1 rfl)).trans k0
    have j1 := (s4.block _ (block_lt k1) (fun h => (ha _ h).2.2.2.2.1 rfl)).trans k1
    have jx := (s4.block _ (block_lt kx) (fun h => (ha _ h).2.2.2.2.2.1 rfl)).trans kx
    have jk := (s4.block _ (block_lt kk) (fun h => (ha _ h).2.2.2.2.2.2 rfl)).trans kk
    have hwc : w.heap.size ≠ c + 1 + 1 := by omega
    have d0 := cell_at jk 0
    have e0 := frozen_at jk 0
    have hst := fun (v : Value) => cell_at (set_blk (p := ⟨c + 1 + 1, 0, none⟩) (v := v) j0 hwc) 0
    have hS4 := hst (.int .i64 ((pre.length : Int) + 1))
    simp only [List.getElem?_toArray, List.getElem?_cons_zero] at d0 hS4
    have hkeep := keeps_upd hR s4
    have hap := s4.apart (G := fun q => q = b ∨ g0 = some q ∨ q = bc ∨ q = w.heap.size ∨ q = w.heap.size + 1 ∨ q = c + 1 ∨ q = c + 1 + 1) (by
      rintro k (rfl | h | rfl | rfl | rfl | rfl | rfl)
      · exact hlt _ (.inl rfl)
      · exact hlt _ (.inr (.inl h))
      · exact hlt _ (.inr (.inr (.inl rfl)))
      · exact block_lt k0
      · exact block_lt k1
      · exact block_lt kx
      · exact block_lt kk) (by
      rintro k h h2
      have := ha k h2
      rcases h with h | h | h | h | h | h | h
      · exact this.1 h
      · exact this.2.1 h
      · exact this.2.2.1 h
      · exact this.2.2.2.1 h
      · exact this.2.2.2.2.1 h
      · exact this.2.2.2.2.2.1 h
      · exact this.2.2.2.2.2.2 h)
    have hcore : Core w few C c b bc (c + 1) (c + 1 + 1) g0 l1 (pre ++ [(xa, xb)]) (W3.setCell ⟨c + 1 + 1, 0, none⟩ (.int .i64 ((pre.length : Int) + 1))) := by
      refine ⟨(hb.trans (s4.below hb.size fun q hq => ?_)).setCell ?_ _, set_blk j0 hwc, set_blk j1 ?_, set_blk jx ?_, ?_, m4, u4, hR4.keep (fun q hq => set_blk_eq (fun e => hap q (.inr (.inr (.inr (.inr (.inr (.inr e)))))) hq)), ?_, ?_⟩
      · have := (hR.foot_lt q hq).1; omega
      · show w.heap.size ≤ c + 1 + 1; omega
      · show w.heap.size + 1 ≠ c + 1 + 1; omega
      · show c + 1 ≠ c + 1 + 1; omega
      · rw [set_at jk]; simp
      · rw [List.append_assoc]; exact (List.perm_append_left_iff pre).2 s1 |>.trans hp
      · exact fun q hq => ⟨fun e => hap q (.inl e) hq, fun e => hap q (.inr (.inl e)) hq, fun e => hap q (.inr (.inr (.inl e))) hq, fun e => hap q (.inr (.inr (.inr (.inl e)))) hq, fun e => hap q (.inr (.inr (.inr (.inr (.inl e))))) hq, fun e => hap q (.inr (.inr (.inr (.inr (.inr (.inl e)))))) hq, fun e => hap q (.inr (.inr (.inr (.inr (.inr (.inr e)))))) hq⟩
    have hsame : ∀ k, k = b ∨ g0 = some k ∨ k = bc → (W3.setCell ⟨c + 1 + 1, 0, none⟩ (.int .i64 ((pre.length : Int) + 1))).heap[k]? = W.heap[k]? := fun k hk => by
      have hk2 : k ≠ c + 1 + 1 := by
        rcases hk with h | h | h
        · have := (hupd k (.inl h)).2.2.2.2; exact this
        · have := (hupd k (.inr h)).2.2.2.2; exact this
        · rw [h]; exact hbcc
      rw [set_blk_eq hk2]
      refine s4.block k (hlt k (by rcases hk with h | h | h <;> simp [h])) fun h2 => ?_
      have := ha k h2
      rcases hk with h | h | h
      · exact this.1 h
      · exact this.2.1 h
      · exact this.2.2.1 h
    have hkp : Kp IT b bc g0 W (W3.setCell ⟨c + 1 + 1, 0, none⟩ (.int .i64 ((pre.length : Int) + 1))) := ⟨by simpa [World.setCell] using s4.size, hsame, fun _ => trivial⟩
    have hM2 := hM.kept cmp1 hkp
    have HC := Lib.hid hcore
    have HK := Lib.hid hkp
    have HM := Lib.hid hM2
    have HKO := Lib.hid (hkeep.trans (KeepsOthers.setCell W3 ⟨c + 1 + 1, 0, none⟩ (.int .i64 ((pre.length : Int) + 1))))
    clear hcore hkp hM2 hkeep hsame hap hst hM hbest hpm hpos hmem hmax s1 hR4 s4 ha hR hp hlt x0 y0 y1 k0 k1 kx kk j1 jx j0 hb hBx
    by_cases hk : pre.length = few
    · subst hk
      gi_wp2
      exact ⟨HKO.out.from _, rfl, HC.out, by simp, _, HM.out⟩
    · gi_wp2
      exact ⟨HKO.out.from _, HK.out, HC.out, by simp; omega⟩
  case done =>
    rintro D xs W hD ⟨lv, h1, h2, h3, h4, h5⟩ ⟨⟨hb, k0, k1, kx, kk, m, lvr, hR, hp, ha⟩, hle⟩ hdef
    have hxl : xs.length = l.length := by have := h4.length_eq; simp at this; omega
    have f0 := cell_at k0 0
    have c0 := cell_at kk 0
    have z1 := frozen_at k1 0
    simp only [List.getElem?_toArray, List.getElem?_cons_zero] at f0 c0
    have hlq : Calls Try.prog 34 #[.pointer (some ⟨b, 0, none⟩)] W.drew fun e w'' => e = .returned (.int .i64 0) ∧ w'' = W.drew := (len_any (h1.keep cmp1 (w' := W.drew) (fun _ _ => rfl))).mono fun e w' h => ⟨h.1, h.2.symm⟩
    have HLQ := Lib.hid hlq
    clear hlq
    rw [hxl] at c0 hle
    have hw1 : IntKind.i64.wrap (few : Int) = (few : Int) := IntWalk.i64_in _ (by omega)
    have hw2 : IntKind.i64.wrap ((few : Int) + 1) = (few : Int) + 1 := IntWalk.i64_in _ (by omega)
    have hmin2 : (if (few : Int) + 1 < (l.length : Int) then (few : Int) + 1 else (l.length : Int)) = (l.length : Int) := if_neg (by omega)
    go_wp2_with fail
    go_still_tail 17, (by kernel_rfl)
    still_call HLQ.out
    repeat still_step
    refine wpStill_nil ?_
    change wpList _ _ _ _ _ W.drew
    have hbd : Below w.heap.size w W.drew := hb.drew
    have k1d : W.drew.heap[w.heap.size + 1]? = some (.cells #[.bool false] 4 (0, 0)) := k1
    have hdd : W.drew.heap[D]? = some (.deferred (some [])) := hdef
    generalize W.drew = W2 at *
    have z2 := frozen_at k1d 0
    have d2 := cell_at k1d 0
    simp only [List.getElem?_toArray, List.getElem?_cons_zero] at d2
    have hDw : D ≠ w.heap.size + 1 := fun e => by subst e; rw [k1d] at hdd; cases hdd
    go_wp2
    try simp only [beq_self_eq_true]
    have e3 := set_blk (p := ⟨w.heap.size + 1, 0, none⟩) (v := .bool true) hdd hDw
    have e4 : (W2.setCell ⟨w.heap.size + 1, 0, none⟩ (.bool true)).heap[w.heap.size + 1]? = some (.cells #[.bool true] 4 (0, 0)) := by rw [set_at k1d]; rfl
    have e5 : ((W2.setCell ⟨w.heap.size + 1, 0, none⟩ (.bool true)).putObj D (.deferred none)).heap[w.heap.size + 1]? = some (.cells #[.bool true] 4 (0, 0)) := (World.putObj_heap_other (fun e => hDw e.symm)).trans e4
    have c5 := cell_at e5 0
    simp only [List.getElem?_toArray, List.getElem?_cons_zero] at c5
    refine ⟨by simp, .inl ⟨_, _, rfl, run_takeDeferred e3, ?_⟩⟩
    refine ⟨.bool true, ?_, rfl, (hbd.setCell (by show w.heap.size ≤ w.heap.size + 1; omega) _).trans (belowK_b (w := w7) hsz7 _ D _ _ hD e3 rfl rfl)⟩
    simp [results, Try.f6, go_sem, c5]
  case stop =>
    rintro D e xs W hD ⟨rfl, ⟨hb, k0, k1, kx, kk, m, lvr, hR, hp, ha⟩, hxl, rest, lv, h1, h2, h3, h4, h5⟩ hdef
    have hxr : few + 1 + rest.length = l.length := by have := h4.length_eq; simp at this; omega
    have f0 := cell_at k0 0
    have c0 := cell_at kk 0
    have z1 := frozen_at k1 0
    simp only [List.getElem?_toArray, List.getElem?_cons_zero] at f0 c0
    have hlq : Calls Try.prog 34 #[.pointer (some ⟨b, 0, none⟩)] W.drew fun e w'' => e = .returned (.int .i64 (rest.length : Int)) ∧ w'' = W.drew := (len_any (h1.keep cmp1 (w' := W.drew) (fun _ _ => rfl))).mono fun e w' h => ⟨h.1, h.2.symm⟩
    have HLQ := Lib.hid hlq
    clear hlq
    rw [hxl, show ((few + 1 : Nat) : Int) = (few : Int) + 1 by omega] at c0
    have hw1 : IntKind.i64.wrap (few : Int) = (few : Int) := IntWalk.i64_in _ (by omega)
    have hw2 : IntKind.i64.wrap ((few : Int) + 1) = (few : Int) + 1 := IntWalk.i64_in _ (by omega)
    have hw3 : IntKind.i64.wrap ((l.length : Int) - ((few : Int) + 1)) = (rest.length : Int) := by rw [IntWalk.i64_in _ (by omega)]; omega
    have hmin2 : (if (few : Int) + 1 < (l.length : Int) then (few : Int) + 1 else (l.length : Int)) = (few : Int) + 1 := by split <;> omega
    refine wpIn_wide.2 ?_
    go_wp2_with fail
    go_still_tail 17, (by kernel_rfl)
    still_call HLQ.out
    repeat still_step
    refine wpStill_nil ?_
    change wpList _ _ _ _ _ W.drew
    have hbd : Below w.heap.size w W.drew := hb.drew
    have k1d : W.drew.heap[w.heap.size + 1]? = some (.cells #[.bool false] 4 (0, 0)) := k1
    have hdd : W.drew.heap[D]? = some (.deferred (some [])) := hdef
    generalize W.drew = W2 at *
    have z2 := frozen_at k1d 0
    have d2 := cell_at k1d 0
    simp only [List.getElem?_toArray, List.getElem?_cons_zero] at d2
    have hDw : D ≠ w.heap.size + 1 := fun e => by subst e; rw [k1d] at hdd; cases hdd
    go_wp2
    try simp only [beq_self_eq_true]
    have e3 := set_blk (p := ⟨w.heap.size + 1, 0, none⟩) (v := .bool true) hdd hDw
    have e4 : (W2.setCell ⟨w.heap.size + 1, 0, none⟩ (.bool true)).heap[w.heap.size + 1]? = some (.cells #[.bool true] 4 (0, 0)) := by rw [set_at k1d]; rfl
    have e5 : ((W2.setCell ⟨w.heap.size + 1, 0, none⟩ (.bool true)).putObj D (.deferred none)).heap[w.heap.size + 1]? = some (.cells #[.bool true] 4 (0, 0)) := (World.putObj_heap_other (fun e => hDw e.symm)).trans e4
    have c5 := cell_at e5 0
    simp only [List.getElem?_toArray, List.getElem?_cons_zero] at c5
    refine ⟨by simp, .inl ⟨_, _, rfl, run_takeDeferred e3, ?_⟩⟩
    refine ⟨.bool true, ?_, rfl, (hbd.setCell (by show w.heap.size ≤ w.heap.size + 1; omega) _).trans (belowK_b (w := w7) hsz7 _ D _ _ hD e3 rfl rfl)⟩
    simp [results, Try.f6, go_sem, c5]
set_option maxHeartbeats 1600000 in
set_option maxRecDepth 100000 in
theorem law_many (A : Option Addr) (cp : Nat) (l : List (Int × Int)) (few : Nat) (w : World) (hl : ¬ l.length ≤ 200) (hs : l.length * 16 ≤ reachBytes) :
    Calls Try.prog 6 #[.slice A l.length cp, .int .u8 (few : Int)] w fun e w' => e = .returned (.bool true) ∧ Below w.heap.size w w' := by
  unfold reachBytes at hs
  have hl2 : 200 < l.length := by omega
  clear hl
  have b0 : Below w.heap.size w ((w.alloc (.cells #[.int .u8 (few : Int)] 5)).alloc (.cells #[.bool false] 4)) := ((Below.refl _ _).alloc (Nat.le_refl _) _).alloc (by simp) _
  have k1 : ((w.alloc (.cells #[.int .u8 (few : Int)] 5)).alloc (.cells #[.bool false] 4)).heap[w.heap.size + 1]? = some (.cells #[.bool false] 4 (0, 0)) := by
    have := heap_alloc_new (w.alloc (.cells #[.int .u8 (few : Int)] 5)) (.cells #[.bool false] 4)
    simpa using this
  go_enter Try.func6, Try.ntmps6
  go_wp2_with fail
  generalize (w.alloc (.cells #[.int .u8 (few : Int)] 5)).alloc (.cells #[.bool false] 4) = w0 at *
  refine (awake_any _).mono ?_
  rintro e w1 ⟨rfl, b1⟩
  replace k1 := (b1.block _ (block_lt k1)).trans k1
  have b01 := b0.trans (b1.mono b0.size)
  have z1 := frozen_at k1 0
  have d1 := cell_at k1 0
  simp only [List.getElem?_toArray, List.getElem?_cons_zero] at d1
  go_wp2_with fail
  refine bodyPost_ret (v := .bool true) ?_ rfl ⟨rfl, b01.setCell (by show w.heap.size ≤ w.heap.size + 1; omega) _⟩
  have e4 : (w1.setCell ⟨w.heap.size + 1, 0, none⟩ (.bool true)).heap[w.heap.size + 1]? = some (.cells #[.bool true] 4 (0, 0)) := by rw [set_at k1]; rfl
  have c5 := cell_at e4 0
  simp only [List.getElem?_toArray, List.getElem?_cons_zero] at c5
  simp [results, Try.f6, go_sem, c5]
theorem walk (W : World) (A : Option Addr) (cp : Nat) (l : List (Int × Int)) (hr : Kd.C kII W A l.length l) (hc : l.length ≤ cp) (hg : ∀ x ∈ l, In64 x.1 ∧ In64 x.2) (hs : l.length * 16 ≤ reachBytes) (few : Int) (hf : (Lit.int .u8 few).wf = true) :
    Calls Try.prog 6 #[.slice A l.length cp, .int .u8 few] W fun e w' => e = .returned (.bool true) ∧ Below W.heap.size W w' := by
  have h : 0 ≤ few ∧ few ≤ 255 := by simpa [Lit.wf, IntKind.min, IntKind.max, IntKind.signed, IntKind.bits] using hf
  obtain ⟨n, rfl⟩ := Int.eq_ofNat_of_zero_le h.1
  by_cases hl : l.length ≤ 200
  · exact law_any A cp l n W hr hl (by omega)
  · exact law_many A cp l n W hl hs
end Go.Proofs.Ytbldnjpdeldabaa.HeapDrains
