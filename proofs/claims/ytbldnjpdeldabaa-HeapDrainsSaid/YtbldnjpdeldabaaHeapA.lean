/- Layer 14: the document's example. -/
import Derived.Test.YtbldnjpdeldabaaHeapL
import Derived.Test.YtbldnjpdeldabaaInts
import Derived.Maps.OwnIn
namespace Go.Proofs.Ytbldnjpdeldabaa.Heap
open Go.RowKit Go.Shelf Base Foot Src RangeSt HeapPure
set_option linter.unusedVariables false
set_option linter.unusedSimpArgs false
attribute [local go_sem] Oper.semAt_some

theorem fs_eq (F : Nat) (f c : Array Value) (w : World) : (binOp .eql 63 (.func (.func F) f c) .nilFunc).run Try.prog w = .ok (.bool false) w := by kernel_rfl
theorem infoInt : (Try.prog.info? 3).map (fun i => (i.zero, i.size, i.bytes)) = some (some (.int .i64 0), 1, 8) := by kernel_rfl
/-- cells lie as they lay where one block that is no cells has turned -/
theorem cells_own {W W' : World} {row : Option Nat} {D : Nat} (hg : W.grownBy W' row) (hr : ∀ r, row = some r → D ≤ r ∧ ∃ o : Obj, W.heap[r]? = some o ∧ o.isCells = false) {k : Nat} {arr : Array Value} {t : TypeId} {fz : Nat × Nat} (hk : W.heap[k]? = some (.cells arr t fz)) : W'.heap[k]? = W.heap[k]? :=
  hg.block k (block_lt hk) (fun e => by
    obtain ⟨_, o, ho, hc⟩ := hr k e.symm
    rw [hk] at ho; cases ho; cases hc)
theorem row_own {W W' : World} {row : Option Nat} {D : Nat} (hg : W.grownBy W' row) (hr : ∀ r, row = some r → D ≤ r ∧ ∃ o : Obj, W.heap[r]? = some o ∧ o.isCells = false) {B : Nat} {e : TypeId} {sz n : Nat} {v : Value} {xs : List Value} (h : W.ownsRow B e sz v n xs) : W'.ownsRow B e sz v n xs :=
  own_keep h fun k hk => by
    rcases h.2 with ⟨rfl, _⟩ | ⟨g, cap, cur, rfl, _, hgb, _⟩
    · cases hk
    · cases hk; exact cells_own hg hr hgb
/-- the example's own cells: the result's, the list's -/
def ExI (w : World) (b bc : Nat) (g0 : Option Nat) (l0 : List Item) (pre : List Item) (W : World) : Prop :=
  Best ltB l0 pre ∧   W.heap[w.heap.size]? = some (.cells #[.bool false] 4 (0, 0)) ∧ Below w.heap.size w W ∧
    ∃ v, W.heap[w.heap.size + 1]? = some (.cells #[v] 104 (0, 0)) ∧ W.ownsRow w.heap.size 3 1 v pre.length ((pre.map Prod.fst).map (Value.int .i64)) ∧ ∀ k, v.ownBlock = some k → k ≠ b ∧ g0 ≠ some k ∧ k ≠ bc
theorem ExI.own {w : World} {b bc D : Nat} {g0 : Option Nat} {l0 : List Item} (hD : w.heap.size ≤ D) : OwnFrom D (ExI w b bc g0 l0) := by
  rintro pre W W' row ⟨h0, h1, h2, v, h3, h4, h5⟩ hg hr
  exact ⟨h0, (cells_own hg hr h1).trans h1, h2.grown hg h2.size (fun k e => Nat.le_trans hD (hr k e).1), v, (cells_own hg hr h3).trans h3, row_own hg hr h4, h5⟩
theorem ExI.upd {w : World} {b bc : Nat} {g0 : Option Nat} {l0 : List Item} (hb : w.heap.size + 1 < b) (hg : ∀ k, g0 = some k → w.heap.size + 1 < k) (pre : List Item) (A B : World) (h : ExI w b bc g0 l0 pre A) (hu : Upd (fun k => k = b ∨ g0 = some k) (fun k => k = b ∨ g0 = some k) A B) : ExI w b bc g0 l0 pre B := by
  obtain ⟨h0, h1, h2, v, h3, h4, h5⟩ := h
  have n0 : ¬ (w.heap.size = b ∨ g0 = some w.heap.size) := by
    rintro (h | h)
    · omega
    · have := hg _ h; omega
  have n1 : ¬ (w.heap.size + 1 = b ∨ g0 = some (w.heap.size + 1)) := by
    rintro (h | h)
    · omega
    · have := hg _ h; omega
  refine ⟨h0, (hu.block _ (block_lt h1) n0).trans h1, h2.trans (hu.below h2.size ?_), v, (hu.block _ (block_lt h3) n1).trans h3, own_keep h4 (fun k hk => hu.block k (h4.lt k hk).2 (fun h => ?_)), h5⟩
  · rintro k (rfl | h)
    · omega
    · have := hg _ h; omega
  · have := h5 k hk
    rcases h with h | h
    · exact this.1 h
    · exact this.2.1 h
def ex0 : List Item := [(3, 0), (1, 0), (2, 0)]
set_option maxHeartbeats 3200000 in
set_option maxRecDepth 100000 in
theorem awake_any (w : World) : Calls Try.prog 29 #[] w fun e w' => e = .returned (.bool true) ∧ Below w.heap.size w w' := by
  refine (callsIn_wide (n := 20)).1 ?_
  refine callsIn_of_wp_marks Try.func29 rfl trivial ?_ rfl
  simp only [Try.ntmps29, List.size_toArray, List.length_cons, List.length_nil, Nat.reduceAdd, Nat.reduceSub, Array.replicate_succ, Array.replicate_zero, List.push_toArray, List.append_toArray, List.nil_append, List.cons_append]
  have hfe := fs_eq
  obtain ⟨i0, hi, hz0, hz1, hz2⟩ := info_parts infoInt
  gi_wp2
  refine ⟨trivial, ?_⟩
  have hsrc : Src (((w.alloc (.cells #[.bool false] 4)).alloc (.cells #[.slice none 0 0] 104)).alloc (.cells #[.int .i64 3, .int .i64 0, .int .i64 1, .int .i64 0, .int .i64 2, .int .i64 0] 66)) 2 (some ⟨w.heap.size + 1 + 1, 0, none⟩) ex0.length (ex0.flatMap enc) :=
    ⟨rfl, fun _ => ⟨_, rfl, news_alloc (by simp)⟩⟩
  have r0 := alloc_blk (x := .cells #[.int .i64 3, .int .i64 0, .int .i64 1, .int .i64 0, .int .i64 2, .int .i64 0] 66) (alloc_blk (x := .cells #[.slice none 0 0] 104) (heap_alloc_new w (.cells #[.bool false] 4)))
  have r1 : (((w.alloc (.cells #[.bool false] 4)).alloc (.cells #[.slice none 0 0] 104)).alloc (.cells #[.int .i64 3, .int .i64 0, .int .i64 1, .int .i64 0, .int .i64 2, .int .i64 0] 66)).heap[w.heap.size + 1]? = some (.cells #[.slice none 0 0] 104 (0, 0)) := by
    have := alloc_blk (x := .cells #[.int .i64 3, .int .i64 0, .int .i64 1, .int .i64 0, .int .i64 2, .int .i64 0] 66) (heap_alloc_new (w.alloc (.cells #[.bool false] 4)) (.cells #[.slice none 0 0] 104))
    simpa using this
  have b0 : Below w.heap.size w (((w.alloc (.cells #[.bool false] 4)).alloc (.cells #[.slice none 0 0] 104)).alloc (.cells #[.int .i64 3, .int .i64 0, .int .i64 1, .int .i64 0, .int .i64 2, .int .i64 0] 66)) :=
    (((Below.refl _ _).alloc (Nat.le_refl _) _).alloc (by simp) _).alloc (by simp; omega) _
  have hs1 : w.heap.size + 3 ≤ (((w.alloc (.cells #[.bool false] 4)).alloc (.cells #[.slice none 0 0] 104)).alloc (.cells #[.int .i64 3, .int .i64 0, .int .i64 1, .int .i64 0, .int .i64 2, .int .i64 0] 66)).heap.size := by simp
  generalize ((w.alloc (.cells #[.bool false] 4)).alloc (.cells #[.slice none 0 0] 104)).alloc (.cells #[.int .i64 3, .int .i64 0, .int .i64 1, .int .i64 0, .int .i64 2, .int .i64 0] 66) = w1 at *
  refine (callsIn_wide.2 (lawof_any (some ⟨w.heap.size + 1 + 1, 0, none⟩) 3 ex0 w1 hsrc (by decide))).mono ?_
  rintro e w2 ⟨b, rfl, l', lv, p1, p2, p3, b2⟩
  have hlb := p3.base
  replace r0 := (b2.block _ (block_lt r0)).trans r0
  replace r1 := (b2.block _ (block_lt r1)).trans r1
  have b02 := b0.trans (b2.mono b0.size)
  gi_wp2
  refine ⟨trivial, ?_⟩
  refine (callsIn_wide.2 (drain_any b w2)).mono ?_
  rintro e w3 ⟨rfl, rfl⟩
  gi_wp2
  have hlv := p3.row.lt
  have hbw2 := block_lt p3.blk
  have hw2 := b02.size
  have hbc1 : w2.heap.size ≠ b ∧ lv.ownBlock ≠ some w2.heap.size := ⟨by omega, fun e => by have := (hlv _ e).2; omega⟩
  have hal := (Below.refl w2.heap.size w2).alloc (Nat.le_refl _) (.cells #[.pointer (some ⟨b, 0, none⟩)] 57)
  have hSt : St 72 ltB IT GF w1.heap.size b w2.heap.size lv.ownBlock l' 0 (ex0.length : Int) [] l' (w2.alloc (.cells #[.pointer (some ⟨b, 0, none⟩)] 57)) :=
    ⟨lv, p3.below cmp1 hal, p2, rfl, List.Perm.refl _, heap_alloc_new _ _⟩
  have h0 : ExI w b w2.heap.size lv.ownBlock l' [] (w2.alloc (.cells #[.pointer (some ⟨b, 0, none⟩)] 57)) :=
    ⟨Best.nil, alloc_blk r0, b02.alloc b02.size _, _, alloc_blk r1, World.ownsRow_nil _ _ _ _, fun k h => by cases h⟩
  have hbgt : w.heap.size + 1 < b := by omega
  have hcgt : w.heap.size + 1 < w2.heap.size := by omega
  have hg0 : ∀ k, lv.ownBlock = some k → w.heap.size + 1 < k := fun k h => by have := (hlv k h).1; omega
  have hsz3 : w.heap.size ≤ (w2.alloc (.cells #[.pointer (some ⟨b, 0, none⟩)] 57)).heap.size := by simp; omega
  generalize (w2.alloc (.cells #[.pointer (some ⟨b, 0, none⟩)] 57)) = w3 at *
  generalize w2.heap.size = bc at *
  generalize lv.ownBlock = g0 at *
  refine wpIn_drain cmp1 (by omega) hSt hbc1 (fun k h => h.elim) rfl rfl (ExI w b bc g0 l') (fun _ _ _ => False) (ExI.own hsz3) (fun _ _ _ _ _ h _ _ => h.elim) h0 (ExI.upd (by omega) hg0)
    (fun x a' W => ∃ Bx, W.heap[Bx]? = some (.cells #[.int .i64 x.1, .int .i64 x.2] 66 (0, 0)) ∧ a' = { tmps := #[.pointer (some ⟨w.heap.size, 0, none⟩), .pointer (some ⟨w.heap.size + 1, 0, none⟩), .func (.func 73) #[] #[.pointer (some ⟨bc, 0, none⟩)], .pointer (some ⟨Bx, 0, none⟩), .agg #[.int .i64 3, .int .i64 0], .agg #[.int .i64 1, .int .i64 0], .agg #[.int .i64 2, .int .i64 0], .slice (some ⟨w.heap.size + 1 + 1, 0, none⟩) 3 3, .pointer (some ⟨b, 0, none⟩), .func (.func 73) #[] #[.pointer (some ⟨bc, 0, none⟩)], .func (.func 73) #[] #[.pointer (some ⟨bc, 0, none⟩)], .bool false, .func (.func 73) #[] #[.pointer (some ⟨bc, 0, none⟩)], .agg #[.int .i64 x.1, .int .i64 x.2], undef, undef, undef, undef, undef, undef, undef, undef, undef, undef, undef], defers := [] })
    (fun x a' u W W' row h hg hr => by obtain ⟨Bx, h1, h2⟩ := h; exact ⟨Bx, (cells_own hg hr h1).trans h1, h2⟩) ?assign ?body ?done (fun _ _ _ _ _ h _ => h.elim)
  case assign =>
    rintro l pre ⟨xa, xb⟩ W K hI ⟨rest, hM, _⟩ hK
    have hlt := St.in_ cmp1 hM
    unfold val
    gi_wp2
    exact hK _ _ ((KeepsOthers.alloc _ _).from _) (Kp.of cmp1 (by simp) (fun k hk => Below.heap_alloc _ _ _ (hlt k hk))) ((ExI.own hsz3).alloc _ hI) ⟨_, heap_alloc_new _ _, rfl⟩
  case body =>
    rintro l pre ⟨xa, xb⟩ a' W hl ⟨hbst, h1, h2, v, h3, h4, h5⟩ ⟨rest, hM, hbest⟩ ⟨Bx, hBx, rfl⟩
    have hlt := St.in_ cmp1 hM
    have hpl : pre.length < 3 := by
      obtain ⟨lv, _, _, _, hp, _⟩ := hM
      have e1 := hp.length_eq
      have e2 := p1.length_eq
      simp [ex0] at e1 e2
      omega
    obtain ⟨A, cap, rfl⟩ : ∃ A cap, v = .slice A pre.length cap := by
      rcases h4.2 with ⟨rfl, h0⟩ | ⟨g, cap, cur, rfl, _⟩
      · exact ⟨none, 0, by rw [h0]⟩
      · exact ⟨_, _, rfl⟩
    have c1 := cell_at h3 0
    have x0 := cell_at hBx 0
    simp only [List.getElem?_toArray, List.getElem?_cons_zero] at c1 x0
    have hne : some (w.heap.size + 1) ≠ (Value.slice A pre.length cap).ownBlock := fun e => row_not_cells h4 h3 (by decide) e.symm
    have hne0 : some w.heap.size ≠ (Value.slice A pre.length cap).ownBlock := fun e => row_not_cells h4 h1 (by decide) e.symm
    have hzw := h2.size
    have hzb := block_lt h3
    gi_wp2_with (gi_at_builtin; refine wpListIn_append_own_at _ rfl _ _ 104 rfl w.heap.size 3 i0 _ 1 8 Try.underlying104 hi hz0 hz1 hz2 rfl (by decide) _ _ _ rfl (h4.alloc _) ⟨W.heap.size, 0, none⟩ 1 1 [.int .i64 xa] rfl rfl (news_alloc rfl) (by simp [Value.oneCell']) (by unfold maxLen; omega) (by omega) (by simp; omega) ?_; intro v' w5 hown5 hgrow5 _ hat5; obtain ⟨g5, cap5, rfl⟩ := ownsRow_succ hown5; have e5 := grown_blk hgrow5 (alloc_blk h3) hne; have d5 := cell_at e5 0; have f5 := frozen_at e5 0; simp only [List.getElem?_toArray, List.getElem?_cons_zero] at d5)
    have hzg := hgrow5.size
    simp at hzg
    have hperm : (pre ++ [(xa, xb)] ++ rest).Perm l' := by obtain ⟨lv, _, _, _, hp, _⟩ := hM; exact hp
    have hk1 : ∀ k, k = b ∨ g0 = some k ∨ k = bc ∨ GF k → k ≠ w.heap.size + 1 := by
      rintro k (rfl | h | rfl | h)
      · omega
      · have := hg0 k h; omega
      · omega
      · exact h.elim
    have hk2 : ∀ k, k = b ∨ g0 = some k ∨ k = bc ∨ GF k → some k ≠ (Value.slice A pre.length cap).ownBlock := by
      intro k hk e
      have := h5 k e.symm
      rcases hk with rfl | h | rfl | h
      · exact this.1 rfl
      · exact this.2.1 h
      · exact this.2.2 rfl
      · exact h.elim
    refine ⟨((KeepsOthers.alloc _ _).trans ((KeepsOthers.of_grownBy hgrow5 (fun j o e ho => own_cells (h4.alloc _) e ho)).trans (KeepsOthers.setCell _ _ _))).from _, Kp.of cmp1 (by simp [World.setCell]; omega) (fun k hk => ?_), hbst.snoc hperm hbest, ?_, ?_, .slice (some ⟨g5, 0, none⟩) (pre.length + 1) cap5, ?_, ?_, ?_⟩
    · rw [set_blk_eq (hk1 k hk), hgrow5.block k (by simp; have := hlt k hk; omega) (hk2 k hk)]
      exact Below.heap_alloc _ _ _ (hlt k hk)
    · rw [set_blk_eq (by show w.heap.size ≠ w.heap.size + 1; omega)]
      exact grown_blk hgrow5 (alloc_blk h1) hne0
    · exact ((h2.alloc h2.size _).grown hgrow5 (by simp; omega) (fun q hq => (h4.lt q hq).1)).setCell (by show w.heap.size ≤ w.heap.size + 1; omega) _
    · rw [set_at e5]; rfl
    · have : w5.ownsRow w.heap.size 3 1 (.slice (some ⟨g5, 0, none⟩) (pre.length + 1) cap5) (pre ++ [(xa, xb)]).length (((pre ++ [(xa, xb)]).map Prod.fst).map (Value.int .i64)) := by simpa using hown5
      exact own_keep this (fun k hk => set_blk_eq (fun e => row_not_cells hown5 e5 (by decide) (by rw [hk, e])))
    · intro k hk
      rcases hat5 with e | e
      · exact h5 k (e ▸ hk)
      · rw [e] at hk
        cases hk
        refine ⟨fun e => ?_, fun e => ?_, fun e => ?_⟩
        · have := hlt b (.inl rfl); simp at e; omega
        · have := hlt _ (.inr (.inl e)); rw [World.size_alloc] at this; omega
        · have := hlt bc (.inr (.inr (.inl rfl))); simp at e; omega
  case done =>
    rintro D xs W hD hE ⟨hbst, h1, h2, v, h3, h4, h5⟩ hdef
    have hperm : xs.Perm l' := by obtain ⟨lv, _, _, _, hp, _⟩ := hE; simpa using hp
    have hmap : xs.map Prod.fst = [3, 2, 1] := by
      refine List.Perm.eq_of_pairwise (le := fun a b => b ≤ a) (fun a b _ _ h1 h2 => by omega) ?_ (by decide) ((hperm.trans p1).map Prod.fst |>.trans (by decide))
      have := hbst.sorted hperm
      rw [List.pairwise_map]
      exact this.imp (fun h => by simp [ltB] at h; exact h)
    have hxl : xs.length = 3 := by have := congrArg List.length hmap; simpa using this
    rw [hmap, hxl] at h4
    have HMAP := Lib.hid hmap
    clear hmap hxl
    obtain ⟨A, cap, rfl⟩ : ∃ A cap, v = .slice A 3 cap := by
      rcases h4.2 with ⟨rfl, h0⟩ | ⟨g, cap, cur, rfl, _⟩
      · cases h0
      · exact ⟨_, _, rfl⟩
    have c1 := cell_at h3 0
    simp only [List.getElem?_toArray, List.getElem?_cons_zero] at c1
    have s1 := (Src.of_own h4).alloc (.cells #[.int .i64 3, .int .i64 2, .int .i64 1] 3)
    have s2 : Src (W.alloc (.cells #[.int .i64 3, .int .i64 2, .int .i64 1] 3)) 1 (some ⟨W.heap.size, 0, none⟩) 3 [.int .i64 3, .int .i64 2, .int .i64 1] := ⟨rfl, fun _ => ⟨_, rfl, news_alloc rfl⟩⟩
    gi_wp2
    refine ⟨trivial, ?_⟩
    refine (callsIn_wide.2 (Ints.ints_yes A (some ⟨W.heap.size, 0, none⟩) cap 3 [3, 2, 1] _ s1 s2 (by decide))).mono ?_
    rintro e W2 ⟨rfl, bb⟩
    have e1 := (bb.block _ (by have := block_lt h1; simp; omega)).trans (alloc_blk h1)
    have e2 := (bb.block _ (by have := block_lt hdef; simp; omega)).trans (alloc_blk hdef)
    have f1 := frozen_at e1 0
    have d1 := cell_at e1 0
    simp only [List.getElem?_toArray, List.getElem?_cons_zero] at d1
    have bW := (h2.alloc h2.size (.cells #[.int .i64 3, .int .i64 2, .int .i64 1] 3)).trans (bb.mono (by simp; have := h2.size; omega))
    gi_wp2
    have hDw : D ≠ w.heap.size := by have := hsz3; intro e; subst e; rw [h1] at hdef; cases hdef
    have e3 := set_blk (p := ⟨w.heap.size, 0, none⟩) (v := .bool true) e2 hDw
    have e4 : (W2.setCell ⟨w.heap.size, 0, none⟩ (.bool true)).heap[w.heap.size]? = some (.cells #[.bool true] 4 (0, 0)) := by rw [set_at e1]; rfl
    have e5 : ((W2.setCell ⟨w.heap.size, 0, none⟩ (.bool true)).putObj D (.deferred none)).heap[w.heap.size]? = some (.cells #[.bool true] 4 (0, 0)) := (World.putObj_heap_other (fun e => hDw e.symm)).trans e4
    have c5 := cell_at e5 0
    simp only [List.getElem?_toArray, List.getElem?_cons_zero] at c5
    refine ⟨by simp, .inl ⟨_, _, rfl, run_takeDeferred e3, ?_⟩⟩
    refine ⟨.bool true, ?_, rfl, (bW.setCell (Nat.le_refl _) _).trans (belowK_b (w := w3) hsz3 _ D _ _ hD e3 rfl rfl)⟩
    simp [results, Try.f29, go_sem, c5]
end Go.Proofs.Ytbldnjpdeldabaa.Heap
