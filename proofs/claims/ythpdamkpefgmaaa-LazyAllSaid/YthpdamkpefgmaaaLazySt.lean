/- Layer 15: the queue and the counts beside it, in memory; what is live, as a callee. -/
import Derived.Test.YthpdamkpefgmaaaLazyLaw
import Derived.Test.YthpdamkpefgmaaaLazyInv
import Derived.Test.YthpdamkpefgmaaaRefCnt4
namespace Go.Proofs.Ythpdamkpefgmaaa.LazySt
open Go.RowKit Go.Shelf Go.Maps Go.Proofs.YthpdamkpefgmaaaW.PrintWords Go.Proofs.YthpdamkpefgmaaaW.PrintLast Go.Proofs.YthpdamkpefgmaaaW.PrintMore Base Foot Src RangeSt ExtTail SymPure Sym PairW BetOrd HeapPure Heap3 PMap LazyQ LazyPut LazyPop LazyLaw RefCnt LazyInv
set_option linter.unusedVariables false
set_option linter.unusedSimpArgs false
attribute [local go_sem ↓] Go.wp_at_zero Go.wp_at_succ

abbrev tC : TypeId := 34
theorem far1 {F F' : Nat → Prop} {w w' : World} (h : Upd F F' w w') {k : Nat} (hk : k < w.heap.size) (hF : ¬ F k) : ¬ F' k := fun hf => by
  rcases h.new k hf with h1 | h1
  · exact hF h1
  · omega
/-- the queue, the counts, the variable that points to them -/
structure St (w0 : World) (Bq : Nat) (W : World) (q tb bh : Nat) (hl : Value) (mb cb vb : Nat) (pv nv : Value) (L : List It) (K m : List (PK × Int)) (s : Sts) : Prop where
  que : QueT Bq W q tb (.slice none 0 0) (.map none) [] bh hl mb L K s
  cnt : RC w0.heap.size W cb 0 #[pv, nv] tC pv nv m
  var : W.heap[vb]? = some (.cells #[.pointer (some ⟨cb, 0, none⟩)] 39 (0, 0))
  qc : ∀ k, CFoot cb pv nv k → ¬ QFoot q bh hl mb k
  qs : ∀ k, Sym.Foot tb (.slice none 0 0) (.map none) k → ¬ CFoot cb pv nv k
  vq : ¬ QFoot q bh hl mb vb
  vc : ¬ CFoot cb pv nv vb
  zq : w0.heap.size ≤ Bq
  zc : ∀ k, CFoot cb pv nv k → w0.heap.size ≤ k
  bel : Below w0.heap.size w0 W
section
variable {w0 W W' : World} {Bq q tb bh : Nat} {hl : Value} {mb cb vb : Nat} {pv nv : Value} {L : List It} {K m : List (PK × Int)} {s : Sts}
theorem St.adds (h : St w0 Bq W q tb bh hl mb cb vb pv nv L K m s) {pv' nv' : Value} {m' : List (PK × Int)} (hr : RC w0.heap.size W' cb 0 #[pv', nv'] tC pv' nv' m') (hu : Upd (CFoot cb pv nv) (CFoot cb pv' nv') W W') : St w0 Bq W' q tb bh hl mb cb vb pv' nv' L K m' s := by
  have hQ : ∀ k, QFoot q bh hl mb k → Bq ≤ k ∧ k < W.heap.size := fun k hk => QueT.lt h.que k hk
  refine ⟨QueT.keep h.que (fun k hk => ?_), hr, (hu.block _ (block_lt h.var) h.vc).trans h.var, fun k hk hq => ?_, fun k hk => far1 hu (QueT.symlt h.que k hk) (h.qs k hk), h.vq, far1 hu (block_lt h.var) h.vc, h.zq, fun k hk => ?_, h.bel.trans (hu.below h.bel.size h.zc)⟩
  · rcases hk with h1 | h1
    · exact hu.block k (hQ k h1).2 (fun hc => h.qc k hc h1)
    · exact hu.block k (QueT.symlt h.que k h1) (h.qs k h1)
  · rcases hu.new k hk with h1 | h1
    · exact h.qc k h1 hq
    · have := (hQ k hq).2; omega
  · rcases hu.new k hk with h1 | h1
    · exact h.zc k h1
    · have := h.bel.size; omega
theorem St.puts (h : St w0 Bq W q tb bh hl mb cb vb pv nv L K m s) {bh' : Nat} {hl' : Value} {L' : List It} {K' : List (PK × Int)} {s' : Sts} (hq : QueT Bq W' q tb (.slice none 0 0) (.map none) [] bh' hl' mb L' K' s') (hu : Upd (QFoot q bh hl mb) (QFoot q bh' hl' mb) W W') : St w0 Bq W' q tb bh' hl' mb cb vb pv nv L' K' m s' :=
  ⟨hq, h.cnt.keep (fun k hk => hu.block k (h.cnt.lt k hk) (h.qc k hk)), (hu.block _ (block_lt h.var) h.vq).trans h.var, fun k hk => far1 hu (h.cnt.lt k hk) (h.qc k hk), h.qs, far1 hu (block_lt h.var) h.vq, h.vc, h.zq, h.zc, h.bel.trans (hu.below h.bel.size (fun k hk => Nat.le_trans h.zq (QueT.lt h.que k hk).1))⟩
theorem St.below (h : St w0 Bq W q tb bh hl mb cb vb pv nv L K m s) (hb : Below W.heap.size W W') : St w0 Bq W' q tb bh hl mb cb vb pv nv L K m s :=
  ⟨QueT.below h.que hb, h.cnt.below hb, (hb.block _ (block_lt h.var)).trans h.var, h.qc, h.qs, h.vq, h.vc, h.zq, h.zc, h.bel.trans (hb.mono h.bel.size)⟩
/-- the counts' pointer -/
abbrev cp (cb : Nat) : Value := .pointer (some ⟨cb, 0, none⟩)
theorem set_two_arr (pv nv pv' nv' : Value) : ((#[pv, nv] : Array Value).setIfInBounds 0 pv').setIfInBounds (0 + 1) nv' = #[pv', nv'] := rfl
/-- a count is taken away -/
theorem St.off (h : St w0 Bq W q tb bh hl mb cb vb pv nv L K m s) (hsm : m.length < 1000) (p : PK) (n : Int) (hp : P64 p) (h0 : 0 ≤ n ∧ n ≤ 9223372036854775807) (hno : lv m p = n) :
    Calls Try.prog 17 #[cp cb, vP p, .int .i64 (-n), .int .i64 1] W fun e W' => e = .returned (.int .i64 0) ∧ ∃ pv' nv' m', St w0 Bq W' q tb bh hl mb cb vb pv' nv' L K m' s ∧ SetR m p 0 m' ∧ Upd (CFoot cb pv nv) (CFoot cb pv' nv') W W' :=
  (add_off h.cnt h.bel.size hsm p n hp h0 hno).mono fun e W' ⟨h1, pv', nv', m', h2, h3, h4⟩ => ⟨h1, pv', nv', m', h.adds h2 h4, h3, h4⟩
theorem St.new (h : St w0 Bq W q tb bh hl mb cb vb pv nv L K m s) (hsm : m.length < 1000) (p : PK) (n : Int) (hp : P64 p) (hn : In64 n) (h0 : 0 ≤ n) (hno : lv m p = 0) :
    Calls Try.prog 17 #[cp cb, vP p, .int .i64 n, .int .i64 1] W fun e W' => e = .returned (.int .i64 0) ∧ ∃ pv' nv' m', St w0 Bq W' q tb bh hl mb cb vb pv' nv' L K m' s ∧ SetR m p n m' ∧ Upd (CFoot cb pv nv) (CFoot cb pv' nv') W W' :=
  (add_new h.cnt h.bel.size hsm p n hp hn h0 hno).mono fun e W' ⟨h1, pv', nv', m', h2, h3, h4⟩ => ⟨h1, pv', nv', m', h.adds h2 h4, h3, h4⟩
end

/-- what is live, read out of the counts -/
def ILc (cb vb : Nat) (pv nv : Value) (m : List (PK × Int)) (W : World) : Prop := W.heap[vb]? = some (.cells #[.pointer (some ⟨cb, 0, none⟩)] 39 (0, 0)) ∧ ∃ B, RC B W cb 0 #[pv, nv] tC pv nv m
def GLc (cb vb : Nat) (pv nv : Value) (k : Nat) : Prop := k = vb ∨ CFoot cb pv nv k
theorem ILc.keep {cb vb : Nat} {pv nv : Value} {m : List (PK × Int)} {W W' : World} (h : ILc cb vb pv nv m W) (hk : ∀ k, GLc cb vb pv nv k → W'.heap[k]? = W.heap[k]?) : ILc cb vb pv nv m W' := by
  obtain ⟨h1, B, h2⟩ := h
  exact ⟨(hk _ (.inl rfl)).trans h1, B, h2.keep fun k e => hk k (.inr e)⟩
theorem ILc.lt {cb vb : Nat} {pv nv : Value} {m : List (PK × Int)} {W : World} (h : ILc cb vb pv nv m W) : ∀ k, GLc cb vb pv nv k → k < W.heap.size := by
  obtain ⟨h1, B, h2⟩ := h
  rintro k (rfl | hk)
  · exact block_lt h1
  · exact h2.lt k hk

set_option maxHeartbeats 800000 in
set_option maxRecDepth 100000 in
theorem live_all1 {cb vb : Nat} {pv nv : Value} {m : List (PK × Int)} : Live 25 #[.pointer (some ⟨vb, 0, none⟩)] (lv m) (ILc cb vb pv nv m) (GLc cb vb pv nv) := by
  refine ⟨enters_of Try.func25 (by kernel_rfl) rfl, fun w p hI hp => ?_, fun w w' h hk => h.keep hk, fun w k h hk => h.lt k hk⟩
  obtain ⟨p1, p2⟩ := p
  obtain ⟨hv, B, hc⟩ := hI
  have b0 : Below w.heap.size w (w.alloc (.cells #[.int .i64 p1, .int .i64 p2] 41)) := (Below.refl _ _).alloc (Nat.le_refl _) _
  have x0 := heap_alloc_new w (.cells #[.int .i64 p1, .int .i64 p2] 41)
  have v0 := (b0.block _ (block_lt hv)).trans hv
  have c0 := cell_at x0 0
  have c1 := cell_at x0 1
  have c2 := cell_at v0 0
  simp only [List.getElem?_toArray, List.getElem?_cons_zero, List.getElem?_cons_succ] at c0 c1 c2
  have HG := Lib.hid (get_any (hc.below b0) (p1, p2))
  clear hc
  show Calls Try.prog _ #[vP (p1, p2), _] w _
  unfold vP
  go_enter Try.func25, Try.ntmps25
  go_wp2_with fail
  refine HG.out.mono ?_
  rintro e w1 ⟨rfl, b1⟩
  go_wp2_with fail
  go_ret
  exact ⟨rfl, b0.trans (b1.mono b0.size)⟩

set_option maxHeartbeats 800000 in
set_option maxRecDepth 100000 in
theorem live_all2 {cb vb : Nat} {pv nv : Value} {m : List (PK × Int)} : Live 27 #[.pointer (some ⟨vb, 0, none⟩)] (lv m) (ILc cb vb pv nv m) (GLc cb vb pv nv) := by
  refine ⟨enters_of Try.func27 (by kernel_rfl) rfl, fun w p hI hp => ?_, fun w w' h hk => h.keep hk, fun w k h hk => h.lt k hk⟩
  obtain ⟨p1, p2⟩ := p
  obtain ⟨hv, B, hc⟩ := hI
  have b0 : Below w.heap.size w (w.alloc (.cells #[.int .i64 p1, .int .i64 p2] 41)) := (Below.refl _ _).alloc (Nat.le_refl _) _
  have x0 := heap_alloc_new w (.cells #[.int .i64 p1, .int .i64 p2] 41)
  have v0 := (b0.block _ (block_lt hv)).trans hv
  have c0 := cell_at x0 0
  have c1 := cell_at x0 1
  have c2 := cell_at v0 0
  simp only [List.getElem?_toArray, List.getElem?_cons_zero, List.getElem?_cons_succ] at c0 c1 c2
  have HG := Lib.hid (get_any (hc.below b0) (p1, p2))
  clear hc
  show Calls Try.prog _ #[vP (p1, p2), _] w _
  unfold vP
  go_enter Try.func27, Try.ntmps27
  go_wp2_with fail
  refine HG.out.mono ?_
  rintro e w1 ⟨rfl, b1⟩
  go_wp2_with fail
  go_ret
  exact ⟨rfl, b0.trans (b1.mono b0.size)⟩

set_option maxHeartbeats 800000 in
set_option maxRecDepth 100000 in
theorem live_plays {cb vb : Nat} {pv nv : Value} {m : List (PK × Int)} : Live 20 #[.pointer (some ⟨vb, 0, none⟩)] (lv m) (ILc cb vb pv nv m) (GLc cb vb pv nv) := by
  refine ⟨enters_of Try.func20 (by kernel_rfl) rfl, fun w p hI hp => ?_, fun w w' h hk => h.keep hk, fun w k h hk => h.lt k hk⟩
  obtain ⟨p1, p2⟩ := p
  obtain ⟨hv, B, hc⟩ := hI
  have b0 : Below w.heap.size w (w.alloc (.cells #[.int .i64 p1, .int .i64 p2] 41)) := (Below.refl _ _).alloc (Nat.le_refl _) _
  have x0 := heap_alloc_new w (.cells #[.int .i64 p1, .int .i64 p2] 41)
  have v0 := (b0.block _ (block_lt hv)).trans hv
  have c0 := cell_at x0 0
  have c1 := cell_at x0 1
  have c2 := cell_at v0 0
  simp only [List.getElem?_toArray, List.getElem?_cons_zero, List.getElem?_cons_succ] at c0 c1 c2
  have HG := Lib.hid (get_any (hc.below b0) (p1, p2))
  clear hc
  show Calls Try.prog _ #[vP (p1, p2), _] w _
  unfold vP
  go_enter Try.func20, Try.ntmps20
  go_wp2_with fail
  refine HG.out.mono ?_
  rintro e w1 ⟨rfl, b1⟩
  go_wp2_with fail
  go_ret
  exact ⟨rfl, b0.trans (b1.mono b0.size)⟩
end Go.Proofs.Ythpdamkpefgmaaa.LazySt
