/- Layer 15: a queue in memory: its entries, what it knows, what it counted. -/
import Derived.Test.YthpdamkpefgmaaaBetOrd
import Derived.Test.YthpdamkpefgmaaaHeapI3
import Derived.Test.YthpdamkpefgmaaaPMap
namespace Go.Proofs.Ythpdamkpefgmaaa.LazyQ
open Go.RowKit Base Foot Src ExtTail SymPure Sym PairW BetOrd HeapPure Heap3 PMap
set_option linter.unusedVariables false
set_option linter.unusedSimpArgs false
attribute [local go_sem ↓] Go.wp_at_zero Go.wp_at_succ

/-- what was counted: symbols at the beginning, rounds, pushes, pops, the longest heap, rebuilds -/
structure Sts where
  pos : Int
  rounds : Int
  pushes : Int
  pops : Int
  peak : Int
  rebuilds : Int
def Sts.zero : Sts := ⟨0, 0, 0, 0, 0, 0⟩
def qcells (tb bh mb : Nat) (s : Sts) : Array Value := #[.pointer (some ⟨tb, 0, none⟩), .pointer (some ⟨bh, 0, none⟩), .map (some mb), .int .i64 s.pos, .int .i64 s.rounds, .int .i64 s.pushes, .int .i64 s.pops, .int .i64 s.peak, .int .i64 s.rebuilds]
abbrev It := (Int × Int) × Int
abbrev FB : Nat := 53
def qp (q : Nat) : Value := .pointer (some ⟨q, 0, none⟩)
/-- what the order of a queue's entries needs of memory -/
def IQ (q tb : Nat) (lv mv : Value) (T : List J) (w : World) : Prop :=
  (∃ v1 v2 v3 v4 v5 v6 v7 v8 : Value, w.heap[q]? = some (.cells #[.pointer (some ⟨tb, 0, none⟩), v1, v2, v3, v4, v5, v6, v7, v8] 100 (0, 0))) ∧ ∃ B, SymT B w tb lv mv T
def GQ (q tb : Nat) (lv mv : Value) (k : Nat) : Prop := k = q ∨ Sym.Foot tb lv mv k

set_option maxHeartbeats 800000 in
set_option maxRecDepth 100000 in
theorem qbetter_any {q tb : Nat} {lv mv : Value} {T : List J} {w : World} (hI : IQ q tb lv mv T w) (x y : It) :
    Calls Try.prog FB #[qp q, val x, val y] w fun e w' => e = .returned (.bool (betB T x y)) ∧ Below w.heap.size w w' := by
  obtain ⟨⟨x1, x2⟩, xn⟩ := x
  obtain ⟨⟨y1, y2⟩, yn⟩ := y
  obtain ⟨⟨v1, v2, v3, v4, v5, v6, v7, v8, hq⟩, B, h⟩ := hI
  have b2 : Below w.heap.size w ((w.alloc (.cells #[.int .i64 x1, .int .i64 x2, .int .i64 xn] 48)).alloc (.cells #[.int .i64 y1, .int .i64 y2, .int .i64 yn] 48)) := ((Below.refl _ _).alloc (Nat.le_refl _) _).alloc (by simp) _
  have e1 := alloc_blk (x := .cells #[.int .i64 y1, .int .i64 y2, .int .i64 yn] 48) (heap_alloc_new w (.cells #[.int .i64 x1, .int .i64 x2, .int .i64 xn] 48))
  have e2 : ((w.alloc (.cells #[.int .i64 x1, .int .i64 x2, .int .i64 xn] 48)).alloc (.cells #[.int .i64 y1, .int .i64 y2, .int .i64 yn] 48)).heap[w.heap.size + 1]? = some (.cells #[.int .i64 y1, .int .i64 y2, .int .i64 yn] 48 (0, 0)) := by
    have := heap_alloc_new (w.alloc (.cells #[.int .i64 x1, .int .i64 x2, .int .i64 xn] 48)) (.cells #[.int .i64 y1, .int .i64 y2, .int .i64 yn] 48)
    simpa using this
  have h2 := h.below b2
  have hq2 := (b2.block _ (block_lt hq)).trans hq
  unfold qp val FB
  go_enter Try.func53, Try.ntmps53
  go_wp2_with fail
  generalize (w.alloc (.cells #[.int .i64 x1, .int .i64 x2, .int .i64 xn] 48)).alloc (.cells #[.int .i64 y1, .int .i64 y2, .int .i64 yn] 48) = w2 at *
  have c0 := fun g => Ext.cell (u := .int .i64 x1) (cell_at e1 0) g
  have c1 := fun g => Ext.cell (u := .int .i64 x2) (cell_at e1 1) g
  have c2 := fun g => Ext.cell (u := .int .i64 xn) (cell_at e1 2) g
  have d0 := fun g => Ext.cell (u := .int .i64 y1) (cell_at e2 0) g
  have d1 := fun g => Ext.cell (u := .int .i64 y2) (cell_at e2 1) g
  have d2 := fun g => Ext.cell (u := .int .i64 yn) (cell_at e2 2) g
  have q0 := fun g => Ext.cell (u := .pointer (some ⟨tb, 0, none⟩)) (cell_at hq2 0) g
  refine wp_region_ext (by kernel_rfl) (by kernel_rfl) ?_
  repeat (quiet_step (first
    | (go_at_call 26; exact ext_of (better_any (h2.below (Ext.below _)) ((x1, x2), xn) ((y1, y2), yn)))))
  refine wpQuiet_nil ?_
  rintro _ ⟨⟨w3, b3⟩, rfl⟩
  go_wp2_with fail
  go_ret
  exact ⟨rfl, b2.trans (b3.mono b2.size)⟩

theorem cmpQ (q tb : Nat) (lv mv : Value) (T : List J) : Cmp (qp q) FB (betB T) (IQ q tb lv mv T) (GQ q tb lv mv) :=
  ⟨bet_ord T, enters_of Try.func53 (by kernel_rfl) rfl, fun w x y hI => qbetter_any hI x y,
    fun w w' hI hk => by
      obtain ⟨⟨v1, v2, v3, v4, v5, v6, v7, v8, hq⟩, B, h⟩ := hI
      exact ⟨⟨v1, v2, v3, v4, v5, v6, v7, v8, (hk q (.inl rfl)).trans hq⟩, B, h.keep (fun k hf => hk k (.inr hf))⟩,
    fun w k hI hk => by
      obtain ⟨⟨v1, v2, v3, v4, v5, v6, v7, v8, hq⟩, B, h⟩ := hI
      rcases hk with rfl | hk
      · exact block_lt hq
      · exact (h.foot_lt k hk).2⟩

/-- a queue at block q: entries L in some order, known K, counted s -/
structure QueT (B : Nat) (w : World) (q tb : Nat) (lv mv : Value) (T : List J) (bh : Nat) (hl : Value) (mb : Nat) (L : List It) (K : List (PK × Int)) (s : Sts) : Prop where
  base : B ≤ q
  blk : w.heap[q]? = some (.cells (qcells tb bh mb s) 100 (0, 0))
  heap : ∃ l pu pk, HeapT (qp q) FB (IQ q tb lv mv T) (GQ q tb lv mv) B w bh hl l pu pk ∧ HeapFrom (betB T) l 0 ∧ l.Perm L ∧ pu ≤ s.pushes
  map : PM w mb K
  mbase : B ≤ mb
  mfar : ¬ Sym.Foot tb lv mv mb
  qfar : ¬ Sym.Foot tb lv mv q
  small : L.length ≤ 1000 ∧ K.length ≤ 1000
  num : 0 ≤ s.pushes ∧ s.pushes ≤ 1000 ∧ 0 ≤ s.pops ∧ s.pops ≤ 1000 ∧ 0 ≤ s.peak ∧ s.peak ≤ 1000 ∧ 0 ≤ s.rebuilds ∧ s.rebuilds ≤ 1000
theorem hinq {F : Nat} {fp : Value} {I I' : World → Prop} {G G' : Nat → Prop} {B bh : Nat} {hl : Value} {l : List It} {pu pk : Int} {w w' : World} (h : HeapT fp F I G B w bh hl l pu pk) (hk : ∀ k, HFoot bh hl k → w'.heap[k]? = w.heap[k]?) (hI : I' w') (hf : ∀ k, G' k → ¬ HFoot bh hl k) : HeapT fp F I' G' B w' bh hl l pu pk :=
  ⟨h.base, (hk _ (.inl rfl)).trans h.blk, own_keep h.row (fun k e => hk k (.inr e)), h.small, h.num, hI, hf⟩
theorem hrebase {F : Nat} {fp : Value} {I : World → Prop} {G : Nat → Prop} {B B' : Nat} {w : World} {b : Nat} {lv : Value} {l : List It} {pu pk : Int} (h : HeapT fp F I G B w b lv l pu pk) (hB : B' ≤ B) : HeapT fp F I G B' w b lv l pu pk := by
  obtain ⟨q1, q2⟩ := h.row
  refine ⟨Nat.le_trans hB h.base, h.blk, ⟨q1, ?_⟩, h.small, h.num, h.inv, h.far⟩
  rcases q2 with q2 | ⟨g, cap, cur, e, hb, q⟩
  · exact .inl q2
  · exact .inr ⟨g, cap, cur, e, by omega, q⟩
theorem hmapfar {F : Nat} {fp : Value} {I : World → Prop} {G : Nat → Prop} {B : Nat} {w : World} {b : Nat} {lv : Value} {l : List It} {pu pk : Int} (h : HeapT fp F I G B w b lv l pu pk) {mb : Nat} {K : List (PK × Int)} (hm : PM w mb K) : ¬ HFoot b lv mb := by
  obtain ⟨es, cl, e⟩ := hm.map
  rintro (rfl | h1)
  · rw [h.blk] at e; cases e
  · have := own_cells h.row h1 e; cases this
theorem IQ.mk {q tb : Nat} {lv mv : Value} {T : List J} {w w' : World} {bh mb : Nat} {s : Sts} (hI : IQ q tb lv mv T w) (hq : w'.heap[q]? = some (.cells (qcells tb bh mb s) 100 (0, 0))) (hk : ∀ k, Sym.Foot tb lv mv k → w'.heap[k]? = w.heap[k]?) : IQ q tb lv mv T w' := by
  obtain ⟨_, B, h⟩ := hI
  exact ⟨⟨_, _, _, _, _, _, _, _, hq⟩, B, h.keep hk⟩
def QFoot (q bh : Nat) (hl : Value) (mb k : Nat) : Prop := k = q ∨ HFoot bh hl k ∨ k = mb
/-! ### what a push leaves -/
def Full (L : List It) (K : List (PK × Int)) (p : PK) (n : Int) : Prop := 16 < L.length + 1 ∧ 2 * (putL K p n).length < L.length + 1
instance (L : List It) (K : List (PK × Int)) (p : PK) (n : Int) : Decidable (Full L K p n) := by unfold Full; infer_instance
def pushL (L : List It) (K : List (PK × Int)) (p : PK) (n : Int) : List It := if Full L K p n then putL K p n else (p, n) :: L
def pushS (L : List It) (K : List (PK × Int)) (s : Sts) (p : PK) (n : Int) : Sts :=
  { s with pushes := s.pushes + 1, peak := max s.peak ((L.length : Int) + 1), rebuilds := if Full L K p n then s.rebuilds + 1 else s.rebuilds }
section
variable {L : List It} {K : List (PK × Int)} {s : Sts} {p : PK} {n : Int}
theorem not_full (h : L.length + 1 ≤ 16 ∨ L.length + 1 ≤ 2 * (putL K p n).length) : ¬ Full L K p n := by
  unfold Full
  omega
theorem pushL_no (h : L.length + 1 ≤ 16 ∨ L.length + 1 ≤ 2 * (putL K p n).length) : pushL L K p n = (p, n) :: L := if_neg (not_full h)
theorem pushS_no (h : L.length + 1 ≤ 16 ∨ L.length + 1 ≤ 2 * (putL K p n).length) : pushS L K s p n = { s with pushes := s.pushes + 1, peak := max s.peak ((L.length : Int) + 1) } := by
  unfold pushS
  rw [if_neg (not_full h)]
theorem pushL_yes (h : 16 < L.length + 1) (h2 : 2 * (putL K p n).length < L.length + 1) : pushL L K p n = putL K p n := if_pos ⟨h, h2⟩
theorem pushS_yes (h : 16 < L.length + 1) (h2 : 2 * (putL K p n).length < L.length + 1) : pushS L K s p n = { s with pushes := s.pushes + 1, peak := max s.peak ((L.length : Int) + 1), rebuilds := s.rebuilds + 1 } := by
  unfold pushS
  rw [if_pos ⟨h, h2⟩]
end
end Go.Proofs.Ythpdamkpefgmaaa.LazyQ
