/- Layer 15: Pop, walked. -/
import Derived.Test.YthpdamkpefgmaaaLazyPut
import Derived.Test.YthpdamkpefgmaaaExtRound
import Derived.Sort.QuietIn
import Derived.Maps.OwnIn
namespace Go.Proofs.Ythpdamkpefgmaaa.LazyPop
open Go.RowKit Go.Shelf Go.Maps Go.Proofs.YthpdamkpefgmaaaW.PrintWords Go.Proofs.YthpdamkpefgmaaaW.PrintLast Go.Proofs.YthpdamkpefgmaaaW.PrintMore Base Foot Src RangeSt ExtTail SymPure Sym PairW BetOrd HeapPure Heap3 PMap LazyQ LazyPut
set_option linter.unusedVariables false
set_option linter.unusedSimpArgs false
attribute [local go_sem ↓] Go.wp_at_zero Go.wp_at_succ
attribute [local go_sem] Oper.semAt_some
attribute [-go_sem] Instr.build
attribute [local go_sem high] buildI buildI0

theorem fs_eq (F : Nat) (f c : Array Value) (w : World) : (binOp .eql 114 (.func (.func F) f c) .nilFunc).run Try.prog w = .ok (.bool false) w := by kernel_rfl
theorem lf_eq (F : Nat) (f c : Array Value) (w : World) : (binOp .eql 46 (.func (.func F) f c) .nilFunc).run Try.prog w = .ok (.bool false) w := by kernel_rfl
theorem ln_eq (w : World) : (binOp .eql 46 .nilFunc .nilFunc).run Try.prog w = .ok (.bool true) w := by kernel_rfl
theorem cells_own {W W' : World} {row : Option Nat} {D : Nat} (hg : W.grownBy W' row) (hr : ∀ r, row = some r → D ≤ r ∧ ∃ o : Obj, W.heap[r]? = some o ∧ o.isCells = false) {k : Nat} {arr : Array Value} {t : TypeId} {fz : Nat × Nat} (hk : W.heap[k]? = some (.cells arr t fz)) : W'.heap[k]? = W.heap[k]? :=
  hg.block k (block_lt hk) (fun e => by
    obtain ⟨_, o, ho, hc⟩ := hr k e.symm
    rw [hk] at ho; cases ho; cases hc)

/-- delete(m, k), inside a fence -/
theorem wpIn_drop {F : Fence} {nF : Nat} {ops : Array Oper} {rest : List Oper} {o : Oper} {a : Act} {Q : Exit → Act → World → Prop} {w : World} (hg : o.guard = none) (m x : Operand) (hop : o.op = Op.call { callee := Callee.builtin Builtin.delete, args := #[m, x], argTypes := #[97, 41] }) {mb : Nat} {L : List (PK × Int)} (hm : a.eval m = .map (some mb)) (h : PM w mb L) {p : PK} (hx : a.eval x = vP p) (hp : P64 p)
    (hK : ∀ w', PM w' mb (dropL L p) → w.grownBy w' (some mb) → wpListIn F nF Try.prog ops Q rest (a.put o.dst (.tuple #[])) w') : wpListIn F nF Try.prog ops Q (o :: rest) a w := by
  obtain ⟨D, h1, h2⟩ := h
  exact wpListIn_delete_own w hg m x _ _ hop _ kyd Try.underlying97 _ mb _ D hm h1 _ _ hx (key_of hp) (fun w' q1 q2 => hK w' (PM.of q1 (h2.drop (h1.tidy kyd) hp)) q2.grown)
/-- what a queue asks for what is live: a function's contract, while IL holds -/
structure Live (LF : Nat) (cb : Array Value) (lf : PK → Int) (IL : World → Prop) (GL : Nat → Prop) : Prop where
  ent : ∀ args w, (callFunc LF args).run Try.prog w = .ok (.enter LF args) w
  call : ∀ w p, IL w → P64 p → Calls Try.prog LF (#[vP p] ++ cb) w fun e w' => e = .returned (.int .i64 (lf p)) ∧ Below w.heap.size w w'
  keep : ∀ w w', IL w → (∀ k, GL k → w'.heap[k]? = w.heap[k]?) → IL w'
  lt : ∀ w k, IL w → GL k → k < w.heap.size

/-- at the call's own cells: the pointer, the function, the results; the queue's block, what is known -/
def PopI (w : World) (q tb bh mb : Nat) (g0 : Option Nat) (lv mv : Value) (T : List J) (LF : Nat) (cb : Array Value) (lf : PK → Int) (IL : World → Prop) (L : List It) (K : List (PK × Int)) (s : Sts) (pre : List It) (W : World) : Prop :=
  Upd (fun k => k = q ∨ k = bh ∨ g0 = some k ∨ k = mb) (fun k => k = q ∨ k = bh ∨ g0 = some k ∨ k = mb) w W ∧
  W.heap[w.heap.size]? = some (.cells #[.pointer (some ⟨q, 0, none⟩)] 24 (0, 0)) ∧
  W.heap[w.heap.size + 1]? = some (.cells #[.func (.func LF) #[] cb] 46 (0, 0)) ∧
  W.heap[w.heap.size + 1 + 1]? = some (.cells #[.int .i64 0, .int .i64 0, .int .i64 0] 48 (0, 0)) ∧
  W.heap[w.heap.size + 1 + 1 + 1]? = some (.cells #[.bool false] 4 (0, 0)) ∧
  W.heap[q]? = some (.cells (qcells tb bh mb { s with pops := s.pops + pre.length }) 100 (0, 0)) ∧
  PM W mb K ∧ (∃ B, SymT B W tb lv mv T) ∧ IL W ∧ (∀ x ∈ pre, x.2 ≠ lf x.1) ∧ Best (betB T) L pre
theorem PopI.own {w : World} {q tb bh mb D : Nat} {g0 : Option Nat} {lv mv : Value} {T : List J} {LF : Nat} {cb : Array Value} {lf : PK → Int} {IL : World → Prop} {GL : Nat → Prop} {L : List It} {K : List (PK × Int)} {s : Sts}
    (hLv : Live LF cb lf IL GL) (hD : w.heap.size ≤ D) (hG : ∀ k, GL k → k < w.heap.size) (hs : ∀ k, Sym.Foot tb lv mv k → k < w.heap.size) (hm : mb < w.heap.size) : OwnFrom D (PopI w q tb bh mb g0 lv mv T LF cb lf IL L K s) := by
  rintro pre W W' row ⟨h1, h2, h3, h4, h5, h6, h7, ⟨B, h8⟩, h9, h10⟩ hg hr
  have hne : ∀ k, k < D → k < W.heap.size → W'.heap[k]? = W.heap[k]? := fun k hk hk2 => hg.block k hk2 (fun e => by have := (hr k e.symm).1; omega)
  have hz := h1.size
  refine ⟨⟨hg.os.trans h1.os, hg.tape.trans h1.tape, hg.output.trans h1.output, Nat.le_trans h1.size hg.size, fun k hk hf => (hne k (by omega) (by omega)).trans (h1.block k hk hf), h1.new⟩, (cells_own hg hr h2).trans h2, (cells_own hg hr h3).trans h3, (cells_own hg hr h4).trans h4, (cells_own hg hr h5).trans h5, (cells_own hg hr h6).trans h6, h7.keep (hne mb (by omega) h7.lt), ⟨B, h8.keep (fun k hk => hne k (by have := hs k hk; omega) (h8.foot_lt k hk).2)⟩, hLv.keep _ _ h9 (fun k hk => hne k (by have := hG k hk; omega) (hLv.lt _ k h9 hk)), h10⟩
theorem PopI.upd {w : World} {q tb bh mb : Nat} {g0 : Option Nat} {lv mv : Value} {T : List J} {LF : Nat} {cb : Array Value} {lf : PK → Int} {IL : World → Prop} {GL : Nat → Prop} {L : List It} {K : List (PK × Int)} {s : Sts}
    (hLv : Live LF cb lf IL GL) (hb : ∀ k, k = bh ∨ g0 = some k → k < w.heap.size ∧ k ≠ q ∧ k ≠ mb ∧ ¬ Sym.Foot tb lv mv k ∧ ¬ GL k) (pre : List It) (A B : World) (h : PopI w q tb bh mb g0 lv mv T LF cb lf IL L K s pre A) (hu : Upd (fun k => k = bh ∨ g0 = some k) (fun k => k = bh ∨ g0 = some k) A B) : PopI w q tb bh mb g0 lv mv T LF cb lf IL L K s pre B := by
  obtain ⟨h1, h2, h3, h4, h5, h6, h7, ⟨B', h8⟩, h9, h10⟩ := h
  have hne : ∀ k, k < A.heap.size → (¬ (k = bh ∨ g0 = some k)) → B.heap[k]? = A.heap[k]? := fun k hk hf => hu.block k hk hf
  have hw : ∀ i, w.heap.size ≤ i → ¬ (i = bh ∨ g0 = some i) := fun i hi hf => by have := (hb _ hf).1; omega
  refine ⟨h1.trans ((hu.foot0 (G := fun k => k = q ∨ k = bh ∨ g0 = some k ∨ k = mb) (fun k hk => by rcases hk with hk | hk; exact .inr (.inl hk); exact .inr (.inr (.inl hk)))).foot (fun k hk => .inl (.inr hk))), (hne _ (block_lt h2) (hw _ (by omega))).trans h2, (hne _ (block_lt h3) (hw _ (by omega))).trans h3, (hne _ (block_lt h4) (hw _ (by omega))).trans h4, (hne _ (block_lt h5) (hw _ (by omega))).trans h5,
    (hne _ (block_lt h6) (fun hf => (hb _ hf).2.1 rfl)).trans h6, h7.keep (hne _ h7.lt (fun hf => (hb _ hf).2.2.1 rfl)), ⟨B', h8.keep (fun k hk => hne _ (h8.foot_lt k hk).2 (fun hf => (hb _ hf).2.2.2.1 hk))⟩, hLv.keep _ _ h9 (fun k hk => hne _ (hLv.lt _ k h9 hk) (fun hf => (hb _ hf).2.2.2.2 hk)), h10⟩
/-- the same at the return: the last one that came isn't stale -/
def PopX (w : World) (q tb bh bc mb : Nat) (g0 : Option Nat) (lv mv : Value) (T : List J) (lf : PK → Int) (l L : List It) (K : List (PK × Int)) (s : Sts) (B : Nat) (pu pk : Int) (pre : List It) (W : World) : Prop :=
  ∃ pr x rest, pre = pr ++ [x] ∧ Upd (fun k => k = q ∨ k = bh ∨ g0 = some k ∨ k = mb) (fun k => k = q ∨ k = bh ∨ g0 = some k ∨ k = mb) w W ∧
  W.heap[w.heap.size + 1 + 1]? = some (.cells #[.int .i64 x.1.1, .int .i64 x.1.2, .int .i64 x.2] 48 (0, 0)) ∧
  W.heap[w.heap.size + 1 + 1 + 1]? = some (.cells #[.bool true] 4 (0, 0)) ∧
  W.heap[q]? = some (.cells (qcells tb bh mb { s with pops := s.pops + pre.length }) 100 (0, 0)) ∧
  PM W mb (dropL K x.1) ∧ (∀ y ∈ pr, y.2 ≠ lf y.1) ∧ x.2 = lf x.1 ∧ Best (betB T) L pre ∧ St (qp q) FB (betB T) (IQ q tb lv mv T) (GQ q tb lv mv) B bh bc g0 l pu pk pre rest W
theorem PopX.own {w : World} {q tb bh bc mb D B : Nat} {g0 : Option Nat} {lv mv : Value} {T : List J} {lf : PK → Int} {l L : List It} {K : List (PK × Int)} {s : Sts} {pu pk : Int}
    (hD : w.heap.size ≤ D) (hG : ∀ k, GQ q tb lv mv k → k < D) (hm : mb < w.heap.size) : OwnFrom D (PopX w q tb bh bc mb g0 lv mv T lf l L K s B pu pk) := by
  rintro pre W W' row ⟨pr, x, rest, h0, h1, h4, h5, h6, h7, h8, h9, h10, h11⟩ hg hr
  have hne : ∀ k, k < D → k < W.heap.size → W'.heap[k]? = W.heap[k]? := fun k hk hk2 => hg.block k hk2 (fun e => by have := (hr k e.symm).1; omega)
  have hz := h1.size
  exact ⟨pr, x, rest, h0, ⟨hg.os.trans h1.os, hg.tape.trans h1.tape, hg.output.trans h1.output, Nat.le_trans h1.size hg.size, fun k hk hf => (hne k (by omega) (by omega)).trans (h1.block k hk hf), h1.new⟩, (cells_own hg hr h4).trans h4, (cells_own hg hr h5).trans h5, (cells_own hg hr h6).trans h6, h7.keep (hne mb (by omega) h7.lt), h8, h9, h10, St.own (cmpQ q tb lv mv T) hG _ _ _ _ h11 hg hr⟩
/-- what a Pop leaves -/
def Popped (B : Nat) (w : World) (q tb : Nat) (lv mv : Value) (T : List J) (bh : Nat) (hl : Value) (mb : Nat) (lf : PK → Int) (L : List It) (K : List (PK × Int)) (s : Sts) (e : Ending) (w' : World) : Prop :=
  ∃ hl' pre, hl'.ownBlock = hl.ownBlock ∧ Upd (QFoot q bh hl mb) (QFoot q bh hl' mb) w w' ∧ Best (betB T) L pre ∧
    ((e = .returned (.tuple #[.agg #[.int .i64 0, .int .i64 0, .int .i64 0], .bool false]) ∧ pre.Perm L ∧ (∀ x ∈ pre, x.2 ≠ lf x.1) ∧ QueT B w' q tb lv mv T bh hl' mb [] K { s with pops := s.pops + pre.length }) ∨
     ∃ pr x rest, pre = pr ++ [x] ∧ e = .returned (.tuple #[.agg #[.int .i64 x.1.1, .int .i64 x.1.2, .int .i64 x.2], .bool true]) ∧ (pre ++ rest).Perm L ∧ (∀ y ∈ pr, y.2 ≠ lf y.1) ∧ x.2 = lf x.1 ∧ QueT B w' q tb lv mv T bh hl' mb rest (dropL K x.1) { s with pops := s.pops + pre.length })

theorem upd_q {q bh mb : Nat} {hl hl' : Value} {w W : World} (h : Upd (fun k => k = q ∨ k = bh ∨ hl.ownBlock = some k ∨ k = mb) (fun k => k = q ∨ k = bh ∨ hl.ownBlock = some k ∨ k = mb) w W) (e : hl'.ownBlock = hl.ownBlock) : Upd (QFoot q bh hl mb) (QFoot q bh hl' mb) w W := by
  refine ⟨h.os, h.tape, h.output, h.size, fun k hk hf => h.block k hk (fun h2 => hf ?_), fun k hk => .inl ?_⟩
  · rcases h2 with h2 | h2 | h2 | h2
    · exact .inl h2
    · exact .inr (.inl (.inl h2))
    · exact .inr (.inl (.inr h2))
    · exact .inr (.inr h2)
  · rcases hk with h2 | (h2 | h2) | h2
    · exact .inl h2
    · exact .inr (.inl (.inl h2))
    · exact .inr (.inl (.inr (e ▸ h2)))
    · exact .inr (.inr h2)
theorem upd_put {F F' : Nat → Prop} {w W : World} (h : Upd F F' w W) {D : Nat} (hD : w.heap.size ≤ D) (o : Obj) : Upd F F' w (W.putObj D o) :=
  ⟨h.os, h.tape, h.output, by simpa using h.size, fun k hk hf => (World.putObj_heap_other (by omega)).trans (h.block k hk hf), h.new⟩
/-- the queue behind the loop -/
theorem pop_que {B : Nat} {w W WF : World} {q tb : Nat} {lv mv : Value} {T : List J} {bh : Nat} {hl : Value} {mb : Nat} {L : List It} {K K' : List (PK × Int)} {s s' : Sts} (h : QueT B w q tb lv mv T bh hl mb L K s)
    {hl' : Value} {rest : List It} {pu pk : Int} (hH : HeapT (qp q) FB (IQ q tb lv mv T) (GQ q tb lv mv) B W bh hl' rest pu pk) (hF : HeapFrom (betB T) rest 0) (hq : W.heap[q]? = some (.cells (qcells tb bh mb s') 100 (0, 0))) (hm : PM W mb K')
    (hk : ∀ k, k < w.heap.size → WF.heap[k]? = W.heap[k]?) (hg : ∀ k, hl'.ownBlock = some k → k < w.heap.size) (hpu : pu ≤ s'.pushes) (hs : rest.length ≤ 1000 ∧ K'.length ≤ 1000)
    (hn : 0 ≤ s'.pushes ∧ s'.pushes ≤ 1000 ∧ 0 ≤ s'.pops ∧ s'.pops ≤ 1000 ∧ 0 ≤ s'.peak ∧ s'.peak ≤ 1000 ∧ 0 ≤ s'.rebuilds ∧ s'.rebuilds ≤ 1000) : QueT B WF q tb lv mv T bh hl' mb rest K' s' := by
  have hp : QP B W q tb lv mv T bh hl' mb rest pu pk K' s' := ⟨h.base, hq, hH, hm, h.mbase, h.mfar, h.qfar⟩
  refine QP.full (QP.keep hp fun k hk2 => hk k ?_) hF (List.Perm.refl _) hpu hs hn
  rcases hk2 with (rfl | (rfl | hk2) | rfl) | hk2
  · exact (QueT.lt h _ (.inl rfl)).2
  · exact (QueT.lt h _ (.inr (.inl (.inl rfl)))).2
  · exact hg k hk2
  · exact (QueT.lt h _ (.inr (.inr rfl))).2
  · exact QueT.symlt h k hk2

set_option maxHeartbeats 6400000 in
set_option maxRecDepth 100000 in
theorem pop_any {B : Nat} {w : World} {q tb : Nat} {lv mv : Value} {T : List J} {bh : Nat} {hl : Value} {mb : Nat} {L : List It} {K : List (PK × Int)} {s : Sts} (h : QueT B w q tb lv mv T bh hl mb L K s)
    {LF : Nat} {cb : Array Value} {lf : PK → Int} {IL : World → Prop} {GL : Nat → Prop} (hLv : Live LF cb lf IL GL) (hIL : IL w) (hGL : ∀ k, GL k → ¬ QFoot q bh hl mb k) (hbig : s.pops + L.length ≤ 1000) (hal : ∀ x ∈ L, P64 x.1) :
    Calls Try.prog 19 #[qp q, .func (.func LF) #[] cb] w fun e w' => Popped B w q tb lv mv T bh hl mb lf L K s e w' := by
  have hfe := fs_eq
  have hle := lf_eq
  have hnum := h.num
  have hsm := h.small
  obtain ⟨l, pu, pk, h0, a2, a3, a4⟩ := QueT.parts h
  have hb0 : Below w.heap.size w ((((w.alloc (.cells #[.pointer (some ⟨q, 0, none⟩)] 24)).alloc (.cells #[.func (.func LF) #[] cb] 46)).alloc (.cells #[.int .i64 0, .int .i64 0, .int .i64 0] 48)).alloc (.cells #[.bool false] 4)) :=
    ((((Below.refl _ _).alloc (Nat.le_refl _) _).alloc (by simp) _).alloc (by simp; omega) _).alloc (by simp; omega) _
  have k0 := alloc_blk (x := .cells #[.bool false] 4) (alloc_blk (x := .cells #[.int .i64 0, .int .i64 0, .int .i64 0] 48) (alloc_blk (x := .cells #[.func (.func LF) #[] cb] 46) (heap_alloc_new w (.cells #[.pointer (some ⟨q, 0, none⟩)] 24))))
  have k1 := alloc_blk (x := .cells #[.bool false] 4) (alloc_blk (x := .cells #[.int .i64 0, .int .i64 0, .int .i64 0] 48) (heap_alloc_new (w.alloc (.cells #[.pointer (some ⟨q, 0, none⟩)] 24)) (.cells #[.func (.func LF) #[] cb] 46)))
  have k2 := alloc_blk (x := .cells #[.bool false] 4) (heap_alloc_new ((w.alloc (.cells #[.pointer (some ⟨q, 0, none⟩)] 24)).alloc (.cells #[.func (.func LF) #[] cb] 46)) (.cells #[.int .i64 0, .int .i64 0, .int .i64 0] 48))
  have k3 := heap_alloc_new (((w.alloc (.cells #[.pointer (some ⟨q, 0, none⟩)] 24)).alloc (.cells #[.func (.func LF) #[] cb] 46)).alloc (.cells #[.int .i64 0, .int .i64 0, .int .i64 0] 48)) (.cells #[.bool false] 4)
  have hz0 : ((((w.alloc (.cells #[.pointer (some ⟨q, 0, none⟩)] 24)).alloc (.cells #[.func (.func LF) #[] cb] 46)).alloc (.cells #[.int .i64 0, .int .i64 0, .int .i64 0] 48)).alloc (.cells #[.bool false] 4)).heap.size = w.heap.size + 4 := by simp
  simp only [World.size_alloc] at k1 k2 k3
  have h1 := QP.below h0 hb0
  have c1 := cell_at h1.blk 1
  simp only [qcells, List.getElem?_toArray, List.getElem?_cons_zero, List.getElem?_cons_succ] at c1
  have H1 := Lib.hid h1
  have HZ0 := Lib.hid hz0
  have K1 := Lib.hid k1
  have K2 := Lib.hid k2
  have K3 := Lib.hid k3
  have K0 := Lib.hid k0
  have hlt := QueT.lt h
  have hsl := QueT.symlt h
  have HH := Lib.hid h
  clear h1 hz0 h0 k1 k2 k3 k0
  unfold qp
  refine (callsIn_wide (n := 20)).1 ?_
  refine callsIn_of_wp_marks Try.func19 rfl trivial ?_ rfl
  simp only [Try.ntmps19, List.size_toArray, List.length_cons, List.length_nil, Nat.reduceAdd, Nat.reduceSub, Array.replicate_succ, Array.replicate_zero, List.push_toArray, List.append_toArray, List.nil_append, List.cons_append]
  refine wpIn_wide.2 ?_
  go_wp2_with fail
  refine (Heap3.drain_any bh _).mono ?_
  rintro e w1 ⟨rfl, rfl⟩
  generalize hw0 : (((w.alloc (.cells #[.pointer (some ⟨q, 0, none⟩)] 24)).alloc (.cells #[.func (.func LF) #[] cb] 46)).alloc (.cells #[.int .i64 0, .int .i64 0, .int .i64 0] 48)).alloc (.cells #[.bool false] 4) = w0 at *
  clear hw0
  have hal0 := (Below.refl w0.heap.size w0).alloc (Nat.le_refl _) (.cells #[.pointer (some ⟨bh, 0, none⟩)] 98)
  have h2 := QP.below H1.out hal0
  have hb2 := hb0.trans (hal0.mono hb0.size)
  have hSt : St (qp q) FB (betB T) (IQ q tb lv mv T) (GQ q tb lv mv) B bh w0.heap.size hl.ownBlock l pu pk [] l (w0.alloc (.cells #[.pointer (some ⟨bh, 0, none⟩)] 98)) :=
    ⟨hl, h2.heap, a2, rfl, List.Perm.refl _, heap_alloc_new _ _⟩
  have hz0' := HZ0.out
  have hgl : ∀ k, hl.ownBlock = some k → k < w.heap.size ∧ k ≠ q ∧ k ≠ mb ∧ ¬ Sym.Foot tb lv mv k := fun k hk =>
    ⟨(hlt k (.inr (.inl (.inr hk)))).2, fun e => QP.qh H1.out (.inr (e ▸ hk)), fun e => QP.mh H1.out (.inr (e ▸ hk)), fun hf => H1.out.heap.far k (.inr hf) (.inr hk)⟩
  have hbl : bh < w.heap.size ∧ bh ≠ q ∧ bh ≠ mb ∧ ¬ Sym.Foot tb lv mv bh :=
    ⟨(hlt bh (.inr (.inl (.inl rfl)))).2, fun e => QP.qh H1.out (.inl e.symm), fun e => QP.mh H1.out (.inl e.symm), fun hf => H1.out.heap.far bh (.inr hf) (.inl rfl)⟩
  have hmbl : mb < w.heap.size := (hlt mb (.inr (.inr rfl))).2
  have hql : q < w.heap.size := (hlt q (.inl rfl)).2
  have hGw : ∀ k, GL k → k < w.heap.size := fun k hk => hLv.lt w k hIL hk
  have hGQ : ∀ k, GQ q tb lv mv k → k < w.heap.size := by
    rintro k (rfl | hk)
    · exact hql
    · exact hsl k hk
  have hupd : ∀ k, k = bh ∨ hl.ownBlock = some k → k < w.heap.size ∧ k ≠ q ∧ k ≠ mb ∧ ¬ Sym.Foot tb lv mv k ∧ ¬ GL k := by
    rintro k (rfl | hk)
    · exact ⟨hbl.1, hbl.2.1, hbl.2.2.1, hbl.2.2.2, fun hg => hGL _ hg (.inr (.inl (.inl rfl)))⟩
    · have := hgl k hk
      exact ⟨this.1, this.2.1, this.2.2.1, this.2.2.2, fun hg => hGL _ hg (.inr (.inl (.inr hk)))⟩
  have hsz2 : w.heap.size ≤ (w0.alloc (.cells #[.pointer (some ⟨bh, 0, none⟩)] 98)).heap.size := by simp; omega
  have hI0 : PopI w q tb bh mb hl.ownBlock lv mv T LF cb lf IL L K s [] (w0.alloc (.cells #[.pointer (some ⟨bh, 0, none⟩)] 98)) :=
    ⟨Upd.of_below hb2, alloc_blk K0.out, alloc_blk K1.out, alloc_blk K2.out, alloc_blk K3.out, by simpa using h2.blk, h2.map, h2.heap.inv.2, hLv.keep _ _ hIL (fun k hk => hb2.block k (hGw k hk)), by simp, Best.nil⟩
  have HI0 := Lib.hid hI0
  have HST := Lib.hid hSt
  clear hI0 hSt h2 hal0 hb0 K0 K1 K2 K3 c1 hz0'
  go_wp2_with fail
  generalize hw2 : w0.alloc (.cells #[.pointer (some ⟨bh, 0, none⟩)] 98) = w2 at *
  clear hw2
  generalize hbc : w0.heap.size = bc at *
  have hbcw : w.heap.size < bc := by have := HZ0.out; omega
  refine (wpIn_wide (n := 20)).1 ?_
  refine wpIn_drain (cmpQ q tb lv mv T) (by omega) HST.out ⟨by omega, fun e => by have := (hgl _ e).1; omega⟩ (fun k hk => by have := hGQ k hk; omega) rfl rfl (PopI w q tb bh mb hl.ownBlock lv mv T LF cb lf IL L K s)
    (fun c pre W => c = .ret ∧ PopX w q tb bh bc mb hl.ownBlock lv mv T lf l L K s B pu pk pre W) ?own ?ownx HI0.out ?upd
    (fun x a' W => ∃ Bx, W.heap[Bx]? = some (.cells #[.int .i64 x.1.1, .int .i64 x.1.2, .int .i64 x.2] 48 (0, 0)) ∧ w.heap.size ≤ Bx ∧ a' = { tmps := #[.pointer (some ⟨q, 0, none⟩), .func (.func LF) #[] cb, .pointer (some ⟨w.heap.size, 0, none⟩), .pointer (some ⟨w.heap.size + 1, 0, none⟩), .pointer (some ⟨w.heap.size + 1 + 1, 0, none⟩), .pointer (some ⟨w.heap.size + 1 + 1 + 1, 0, none⟩), .pointer (some ⟨Bx, 0, none⟩), .pointer (some ⟨q, 0, none⟩), .bool false, .bool false, .func (.func LF) #[] cb, .bool false, .bool false, undef, .pointer (some ⟨q, 0, none⟩), .pointer (some ⟨q, 0, none⟩), .pointer (some ⟨q, 1, none⟩), .pointer (some ⟨bh, 0, none⟩), .func (.func 81) #[] #[.pointer (some ⟨bc, 0, none⟩)], .agg #[.int .i64 x.1.1, .int .i64 x.1.2, .int .i64 x.2], undef, undef, undef, undef, undef, undef, undef, undef, undef, undef, undef, undef, undef, undef, undef, undef, undef, undef, undef, undef, undef, undef, undef, undef], defers := [] })
    (fun x a' u W W' row h hg hr => by obtain ⟨Bx, h1, h2⟩ := h; exact ⟨Bx, (cells_own hg hr h1).trans h1, h2⟩) ?assign ?body ?done ?stop
  case own => exact PopI.own hLv hsz2 hGw hsl hmbl
  case ownx => exact fun e pre W W' row h hg hr => ⟨h.1, PopX.own hsz2 (fun k hk => by have := hGQ k hk; omega) hmbl pre W W' row h.2 hg hr⟩
  case upd => exact fun pre X Y h hu => PopI.upd hLv hupd pre X Y h hu
  case assign =>
    rintro l' pre ⟨⟨xa, xb⟩, xc⟩ W K' hI ⟨rest, hM, _⟩ hK
    have hlt := St.in_ (cmpQ q tb lv mv T) hM
    unfold val
    gi_wp2
    refine hK _ _ ((KeepsOthers.alloc _ _).from _) (Kp.of (cmpQ q tb lv mv T) (by simp) (fun k hk => Below.heap_alloc _ _ _ (hlt k hk))) (PopI.own hLv hsz2 hGw hsl hmbl |>.alloc _ hI) ⟨_, heap_alloc_new _ _, by have := hI.1.size; omega, rfl⟩
  case body =>
    rintro l' pre ⟨⟨xa, xb⟩, xc⟩ a' W hl' ⟨h1, k0, k1, k2, k3, hq, hm, hS, hIl, hst, hB⟩ ⟨rest, hM, hbest⟩ ⟨Bx, hBx, hBxw, rfl⟩
    have hlt2 := St.in_ (cmpQ q tb lv mv T) hM
    have hM' := hM
    obtain ⟨hlv2, m1, m2, m3, m4, m5⟩ := hM'
    have hperm : (pre ++ [((xa, xb), xc)] ++ rest).Perm L := m4.trans a3
    have hxp : P64 (xa, xb) := hal ((xa, xb), xc) (hperm.mem_iff.1 (by simp))
    have hlen : pre.length + 1 + rest.length = L.length := by have := hperm.length_eq; simp at this; omega
    have z0 := cell_at k0 0
    have y0 := cell_at hBx 0
    have y1 := cell_at hBx 1
    have y2 := cell_at hBx 2
    have q6 := cell_at hq 6
    have f6 := frozen_at hq 6
    simp only [qcells, List.getElem?_toArray, List.getElem?_cons_zero, List.getElem?_cons_succ] at z0 y0 y1 y2 q6
    gi_wp2
    have hne : ∀ i, w.heap.size ≤ i → i ≠ q := fun i hi e => by omega
    have far1 : ∀ k, k ≠ q → (W.setCell ⟨q, 6, none⟩ (.int .i64 (s.pops + (pre.length : Int) + 1))).heap[k]? = W.heap[k]? := fun k hk => set_blk_eq hk
    have hpl : s.pops + ((pre ++ [((xa, xb), xc)]).length : Int) = s.pops + (pre.length : Int) + 1 := by simp; omega
    have hq1 : (W.setCell ⟨q, 6, none⟩ (.int .i64 (s.pops + (pre.length : Int) + 1))).heap[q]? = some (.cells (qcells tb bh mb { s with pops := s.pops + ((pre ++ [((xa, xb), xc)]).length : Int) }) 100 (0, 0)) := by
      rw [hpl]
      exact set_stat hq 6 _ rfl
    have hko : KeepsOthers W (W.setCell ⟨q, 6, none⟩ (.int .i64 (s.pops + (pre.length : Int) + 1))) := KeepsOthers.setCell _ _ _
    have hz1 : (W.setCell ⟨q, 6, none⟩ (.int .i64 (s.pops + (pre.length : Int) + 1))).heap.size = W.heap.size := by simp [World.setCell]
    have u1 : Upd (fun k => k = q ∨ k = bh ∨ hl.ownBlock = some k ∨ k = mb) (fun k => k = q ∨ k = bh ∨ hl.ownBlock = some k ∨ k = mb) w (W.setCell ⟨q, 6, none⟩ (.int .i64 (s.pops + (pre.length : Int) + 1))) := h1.trans (Upd.set (p := ⟨q, 6, none⟩) (.inl rfl))
    obtain ⟨BS, hS⟩ := hS
    have hwz := h1.size
    replace k0 := (far1 _ (hne _ (by omega))).trans k0
    replace k1 := (far1 _ (hne _ (by omega))).trans k1
    replace k2 := (far1 _ (hne _ (by omega))).trans k2
    replace k3 := (far1 _ (hne _ (by omega))).trans k3
    replace hBx := (far1 _ (hne _ hBxw)).trans hBx
    replace hIl : IL (W.setCell ⟨q, 6, none⟩ (.int .i64 (s.pops + (pre.length : Int) + 1))) := hLv.keep _ _ hIl (fun k hk => far1 k (fun e => hGL k hk (.inl e)))
    replace hm := hm.keep (far1 mb (fun e => QP.qm H1.out e.symm))
    replace hS := hS.keep (fun k hk => far1 k (fun e => H1.out.qfar (e ▸ hk)))
    have hkp0 : Kp (IQ q tb lv mv T) bh bc hl.ownBlock W (W.setCell ⟨q, 6, none⟩ (.int .i64 (s.pops + (pre.length : Int) + 1))) := ⟨by rw [hz1]; exact Nat.le_refl _, fun k hk => far1 k (fun e => by
        rcases hk with hk | hk | hk
        · exact hbl.2.1 (hk ▸ e)
        · exact (hgl k hk).2.1 e
        · omega), fun hI => ⟨⟨_, _, _, _, _, _, _, _, hq1⟩, BS, hS⟩⟩
    clear z0 y0 y1 y2 q6 f6 hq
    generalize W.setCell ⟨q, 6, none⟩ (.int .i64 (s.pops + (pre.length : Int) + 1)) = W1 at *
    have d0 := fun g => Ext.cell (w := W1) (u := .int .i64 xa) (cell_at hBx 0) g
    have d1 := fun g => Ext.cell (w := W1) (u := .int .i64 xb) (cell_at hBx 1) g
    have d2 := fun g => Ext.cell (w := W1) (u := .int .i64 xc) (cell_at hBx 2) g
    have d3 := fun g => Ext.cell (w := W1) (u := .func (.func LF) #[] cb) (cell_at k1 0) g
    have hent := hLv.ent
    have HC : ∀ g : Ext W1, Calls Try.prog LF (#[.agg #[.int .i64 xa, .int .i64 xb]] ++ cb) g.out fun e w' => e = .returned (.int .i64 (lf (xa, xb))) ∧ Below g.out.heap.size g.out w' := fun g => hLv.call _ (xa, xb) (hLv.keep _ _ hIl (fun k hk => g.below.block k (hLv.lt _ k hIl hk))) hxp
    have HCC := Lib.hid HC
    have HM := Lib.hid hM
    have HQ1 := Lib.hid hq1
    have HBX := Lib.hid hBx
    have HB := Lib.hid hB
    clear HC far1 hM hq1 hpl m1 m2 m3 m4 m5 hB hlt2 hlt hsl hupd hGw hGL hal
    refine wpIn_region_ext (by kernel_rfl) (by kernel_rfl) (by kernel_rfl) ?_
    repeat (quiet_step (exact ext_of (HCC.out _)))
    refine wpQuiet_nil ?_
    rintro W3 ⟨⟨_, b3⟩, rfl⟩
    clear d0 d1 d2 d3 hent HCC
    have hq3 := (b3.block _ (block_lt HQ1.out)).trans HQ1.out
    replace k0 := (b3.block _ (block_lt k0)).trans k0
    replace k1 := (b3.block _ (block_lt k1)).trans k1
    replace k2 := (b3.block _ (block_lt k2)).trans k2
    replace k3 := (b3.block _ (block_lt k3)).trans k3
    have hBx3 := (b3.block _ (block_lt hBx)).trans hBx
    have hm3 := hm.below b3
    have hS3 := hS.below b3
    have hIl3 := hLv.keep _ _ hIl (fun k hk => b3.block k (hLv.lt _ k hIl hk))
    have u3 := u1.trans (Upd.of_below b3)
    have hko3 := hko.trans ⟨b3.size, fun k o hk ho => (b3.block k (block_lt hk)).trans hk⟩
    have hW : ∀ k, k = bh ∨ hl.ownBlock = some k ∨ k = bc → k < W.heap.size := fun k hk => St.in_ (cmpQ q tb lv mv T) HM.out k (by rcases hk with hk | hk | hk <;> simp [hk])
    have hkp3 : Kp (IQ q tb lv mv T) bh bc hl.ownBlock W W3 := ⟨Nat.le_trans hkp0.1 b3.size, fun k hk => (b3.block k (Nat.lt_of_lt_of_le (hW k hk) hkp0.1)).trans (hkp0.2.1 k hk), fun hI => ⟨⟨_, _, _, _, _, _, _, _, hq3⟩, BS, hS3⟩⟩
    have KO3 := Lib.hid hko3
    have KP3 := Lib.hid hkp3
    have U3 := Lib.hid u3
    have HQ3 := Lib.hid hq3
    have HM3 := Lib.hid hm3
    have K0 := Lib.hid k0
    have K1 := Lib.hid k1
    have K2 := Lib.hid k2
    have K3 := Lib.hid k3
    have HBX3 := Lib.hid hBx3
    clear hko hkp0 u1 hS hm hIl hBx hz1 hW HQ1 HBX hko3 hkp3 u3 hq3 hm3 k0 k1 k2 k3 hBx3
    by_cases hx : xc = lf (xa, xb)
    · have hxb : (xc == lf (xa, xb)) = true := by simpa using hx
      have HX := Lib.hid hx
      clear hx
      gi_wp2
      have e0 := fun g => Ext.cell (w := W3) (u := .pointer (some ⟨q, 0, none⟩)) (cell_at K0.out 0) g
      have e1 := fun g => Ext.cell (w := W3) (u := .map (some mb)) (cell_at HQ3.out 2) g
      have e2 := fun g => Ext.cell (w := W3) (u := .int .i64 xa) (cell_at HBX3.out 0) g
      have e3 := fun g => Ext.cell (w := W3) (u := .int .i64 xb) (cell_at HBX3.out 1) g
      refine wpIn_region_ext_tail 6 (by kernel_rfl) (by kernel_rfl) (by kernel_rfl) ?_
      simp only [List.take_succ_cons, List.take_zero, List.drop_succ_cons, List.drop_zero]
      repeat (quiet_step (fail))
      refine wpQuiet_nil ?_
      rintro W5 ⟨⟨_, b5⟩, rfl⟩
      refine wpIn_drop rfl _ _ rfl rfl (HM3.out.below b5) (p := (xa, xb)) rfl hxp ?_
      intro W6 hm6 hg6
      clear e0 e1 e2 e3
      have far6 : ∀ k, k < W5.heap.size → k ≠ mb → W6.heap[k]? = W5.heap[k]? := fun k hk e => hg6.block k hk (by simpa using e)
      have z5 := b5.size
      have r2 := (b5.block _ (block_lt K2.out)).trans K2.out
      have r3 := (b5.block _ (block_lt K3.out)).trans K3.out
      have rb := (b5.block _ (block_lt HBX3.out)).trans HBX3.out
      have rq := (b5.block _ (block_lt HQ3.out)).trans HQ3.out
      have t2 := (far6 _ (block_lt r2) (by omega)).trans r2
      have t3 := (far6 _ (block_lt r3) (by omega)).trans r3
      have tb2 := (far6 _ (block_lt rb) (by omega)).trans rb
      have tq := (far6 _ (block_lt rq) (QP.qm H1.out)).trans rq
      have c20 := cell_at t2 0
      have c21 := cell_at t2 1
      have c22 := cell_at t2 2
      have f20 := frozen_at t2 0
      have f21 := frozen_at t2 1
      have f22 := frozen_at t2 2
      have c30 := cell_at t3 0
      have f30 := frozen_at t3 0
      have g0 := cell_at tb2 0
      have g1 := cell_at tb2 1
      have g2 := cell_at tb2 2
      simp only [List.getElem?_toArray, List.getElem?_cons_zero, List.getElem?_cons_succ] at c20 c21 c22 c30 g0 g1 g2
      have u6 := (U3.out.trans (Upd.of_below b5)).trans (Upd.grown hg6 (F := fun k => k = q ∨ k = bh ∨ hl.ownBlock = some k ∨ k = mb) (fun k e => by cases e; exact .inr (.inr (.inr rfl))))
      have hzz : W.heap.size ≤ W3.heap.size := KO3.out.size
      have hkf6 : KeepsFrom w2.heap.size W W6 := ⟨Nat.le_trans (Nat.le_trans hzz z5) hg6.size, fun k o hB hk ho => by
        have h3 := KO3.out.same k o hk ho
        have h5 := (b5.block k (block_lt h3)).trans h3
        exact (far6 k (block_lt h5) (by omega)).trans h5⟩
      have hW : ∀ k, k = bh ∨ hl.ownBlock = some k ∨ k = bc → k < W.heap.size := fun k hk => St.in_ (cmpQ q tb lv mv T) HM.out k (by rcases hk with hk | hk | hk <;> simp [hk])
      have hkk : ∀ k, k = bh ∨ hl.ownBlock = some k ∨ k = bc → k ≠ mb ∧ k ≠ w.heap.size + 1 + 1 ∧ k ≠ w.heap.size + 1 + 1 + 1 := by
        have hz9 := HZ0.out
        rintro k (hk | hk | hk)
        · rw [hk]; exact ⟨hbl.2.2.1, by have := hbl.1; omega, by have := hbl.1; omega⟩
        · have := hgl k hk; exact ⟨this.2.2.1, by omega, by omega⟩
        · rw [hk]; exact ⟨by omega, by omega, by omega⟩
      have hk6 : ∀ k, k = bh ∨ hl.ownBlock = some k ∨ k = bc → W6.heap[k]? = W.heap[k]? := fun k hk => by
        have h1 := hW k hk
        rw [far6 k (by omega) (hkk k hk).1, b5.block k (by omega)]
        exact KP3.out.2.1 k hk
      have hS6 : SymT BS W6 tb lv mv T := (hS3.below b5).keep (fun k hk => far6 k ((hS3.below b5).foot_lt k hk).2 (fun e => H1.out.mfar (e ▸ hk)))
      have hsw := hS6.foot_lt
      have hslw := QueT.symlt HH.out
      have HK6 := Lib.hid hk6
      have HKK := Lib.hid hkk
      have HW := Lib.hid hW
      have U6 := Lib.hid u6
      have HKF := Lib.hid hkf6
      have HS6 := Lib.hid hS6
      have HM6 := Lib.hid hm6
      have TQ := Lib.hid tq
      have T2 := Lib.hid t2
      have T3 := Lib.hid t3
      clear hk6 hkk hW u6 hkf6 hS6 hm6 tq t2 t3 tb2 rq rb r2 r3 far6 hg6 b5 hsw
      gi_wp2
      have far7 : ∀ k, k ≠ w.heap.size + 1 + 1 → k ≠ w.heap.size + 1 + 1 + 1 → ((((W6.setCell ⟨w.heap.size + 1 + 1, 0, none⟩ (.int .i64 xa)).setCell ⟨w.heap.size + 1 + 1, 1, none⟩ (.int .i64 xb)).setCell ⟨w.heap.size + 1 + 1, 2, none⟩ (.int .i64 xc)).setCell ⟨w.heap.size + 1 + 1 + 1, 0, none⟩ (.bool true)).heap[k]? = W6.heap[k]? := fun k h2 h3 => by
        rw [set_blk_eq h3, set_blk_eq h2, set_blk_eq h2, set_blk_eq h2]
      have s2 := set_blk (p := ⟨w.heap.size + 1 + 1 + 1, 0, none⟩) (v := .bool true) (set_three (x := .int .i64 xa) (y := .int .i64 xb) (z := .int .i64 xc) T2.out) (by show w.heap.size + 1 + 1 ≠ w.heap.size + 1 + 1 + 1; omega)
      have s3 : ((((W6.setCell ⟨w.heap.size + 1 + 1, 0, none⟩ (.int .i64 xa)).setCell ⟨w.heap.size + 1 + 1, 1, none⟩ (.int .i64 xb)).setCell ⟨w.heap.size + 1 + 1, 2, none⟩ (.int .i64 xc)).setCell ⟨w.heap.size + 1 + 1 + 1, 0, none⟩ (.bool true)).heap[w.heap.size + 1 + 1 + 1]? = some (.cells #[.bool true] 4 (0, 0)) := by
        rw [set_at (set_blk (set_blk (set_blk T3.out (by show w.heap.size + 1 + 1 + 1 ≠ w.heap.size + 1 + 1; omega)) (by show w.heap.size + 1 + 1 + 1 ≠ w.heap.size + 1 + 1; omega)) (by show w.heap.size + 1 + 1 + 1 ≠ w.heap.size + 1 + 1; omega))]
        rfl
      have u7 := (((U6.out.set_new (p := ⟨w.heap.size + 1 + 1, 0, none⟩) (v := .int .i64 xa) (by show w.heap.size ≤ w.heap.size + 1 + 1; omega)).set_new (p := ⟨w.heap.size + 1 + 1, 1, none⟩) (v := .int .i64 xb) (by show w.heap.size ≤ w.heap.size + 1 + 1; omega)).set_new (p := ⟨w.heap.size + 1 + 1, 2, none⟩) (v := .int .i64 xc) (by show w.heap.size ≤ w.heap.size + 1 + 1; omega)).set_new (p := ⟨w.heap.size + 1 + 1 + 1, 0, none⟩) (v := .bool true) (by show w.heap.size ≤ w.heap.size + 1 + 1 + 1; omega)
      have z7 : ((((W6.setCell ⟨w.heap.size + 1 + 1, 0, none⟩ (.int .i64 xa)).setCell ⟨w.heap.size + 1 + 1, 1, none⟩ (.int .i64 xb)).setCell ⟨w.heap.size + 1 + 1, 2, none⟩ (.int .i64 xc)).setCell ⟨w.heap.size + 1 + 1 + 1, 0, none⟩ (.bool true)).heap.size = W6.heap.size := by simp [World.setCell]
      generalize (((W6.setCell ⟨w.heap.size + 1 + 1, 0, none⟩ (.int .i64 xa)).setCell ⟨w.heap.size + 1 + 1, 1, none⟩ (.int .i64 xb)).setCell ⟨w.heap.size + 1 + 1, 2, none⟩ (.int .i64 xc)).setCell ⟨w.heap.size + 1 + 1 + 1, 0, none⟩ (.bool true) = W7 at *
      have hq7 := (far7 q (by omega) (by omega)).trans TQ.out
      have hkeep : ∀ k, k = bh ∨ hl.ownBlock = some k ∨ k = bc → W7.heap[k]? = W.heap[k]? := fun k hk => (far7 k (HKK.out k hk).2.1 (HKK.out k hk).2.2).trans (HK6.out k hk)
      have hkp : Kp (IQ q tb lv mv T) bh bc hl.ownBlock W W7 := ⟨by rw [z7]; exact HKF.out.size, hkeep, fun hI => ⟨⟨_, _, _, _, _, _, _, _, hq7⟩, BS, HS6.out.keep (fun k hk => far7 k (by have := hslw k hk; omega) (by have := hslw k hk; omega))⟩⟩
      refine ⟨⟨by rw [z7]; exact HKF.out.size, fun k o hB hk ho => ?_⟩, rfl, pre, ((xa, xb), xc), rest, rfl, u7, s2, s3, hq7, HM6.out.keep (far7 mb (by omega) (by omega)), hst, HX.out, HB.out.snoc hperm hbest, HM.out.kept (cmpQ q tb lv mv T) hkp⟩
      have h6 := HKF.out.same k o hB hk ho
      refine (far7 k (fun e => ?_) (fun e => ?_)).trans h6
      · rw [e, T2.out] at h6; cases h6; cases ho
      · rw [e, T3.out] at h6; cases h6; cases ho
    · have hxb : (xc == lf (xa, xb)) = false := by simpa using hx
      have hpi : PopI w q tb bh mb hl.ownBlock lv mv T LF cb lf IL L K s (pre ++ [((xa, xb), xc)]) W3 :=
        ⟨U3.out, K0.out, K1.out, K2.out, K3.out, HQ3.out, HM3.out, ⟨BS, hS3⟩, hIl3, fun y hy => by
          rcases List.mem_append.1 hy with h | h
          · exact hst y h
          · rw [List.mem_singleton.1 h]; exact hx, HB.out.snoc hperm hbest⟩
      have HPI := Lib.hid hpi
      clear hpi hx
      gi_wp2
      exact ⟨KO3.out.from _, KP3.out, HPI.out⟩
  case done =>
    rintro D xs W hD hE ⟨h1, k0, k1, k2, k3, hq, hm, hS, hIl, hst, hB⟩ hdef
    have c20 := cell_at k2 0
    have c21 := cell_at k2 1
    have c22 := cell_at k2 2
    have f20 := frozen_at k2 0
    have f21 := frozen_at k2 1
    have f22 := frozen_at k2 2
    have c30 := cell_at k3 0
    have f30 := frozen_at k3 0
    simp only [List.getElem?_toArray, List.getElem?_cons_zero, List.getElem?_cons_succ] at c20 c21 c22 c30
    obtain ⟨hlv2, m1, m2, m3, m4, m5⟩ := hE
    have hperm : xs.Perm L := by simpa using m4.trans a3
    have hDz : w.heap.size ≤ D := by have := HZ0.out; omega
    have hDn2 : D ≠ w.heap.size + 1 + 1 := fun e => by subst e; rw [k2] at hdef; cases hdef
    have hDn3 : D ≠ w.heap.size + 1 + 1 + 1 := fun e => by subst e; rw [k3] at hdef; cases hdef
    have M1 := Lib.hid m1
    have M2 := Lib.hid m2
    have HPM := Lib.hid hperm
    have HQ := Lib.hid hq
    have HBB := Lib.hid hB
    clear m1 m2 m4 m5 hperm hq hB
    go_wp2_with fail
    have far7 : ∀ k, k ≠ w.heap.size + 1 + 1 → k ≠ w.heap.size + 1 + 1 + 1 → ((((W.setCell ⟨w.heap.size + 1 + 1, 0, none⟩ (.int .i64 0)).setCell ⟨w.heap.size + 1 + 1, 1, none⟩ (.int .i64 0)).setCell ⟨w.heap.size + 1 + 1, 2, none⟩ (.int .i64 0)).setCell ⟨w.heap.size + 1 + 1 + 1, 0, none⟩ (.bool false)).heap[k]? = W.heap[k]? := fun k h2 h3 => by
      rw [set_blk_eq h3, set_blk_eq h2, set_blk_eq h2, set_blk_eq h2]
    have s2 := set_blk (p := ⟨w.heap.size + 1 + 1 + 1, 0, none⟩) (v := .bool false) (set_three (x := .int .i64 0) (y := .int .i64 0) (z := .int .i64 0) k2) (by show w.heap.size + 1 + 1 ≠ w.heap.size + 1 + 1 + 1; omega)
    have s3 : ((((W.setCell ⟨w.heap.size + 1 + 1, 0, none⟩ (.int .i64 0)).setCell ⟨w.heap.size + 1 + 1, 1, none⟩ (.int .i64 0)).setCell ⟨w.heap.size + 1 + 1, 2, none⟩ (.int .i64 0)).setCell ⟨w.heap.size + 1 + 1 + 1, 0, none⟩ (.bool false)).heap[w.heap.size + 1 + 1 + 1]? = some (.cells #[.bool false] 4 (0, 0)) := by
      rw [set_at (set_blk (set_blk (set_blk k3 (by show w.heap.size + 1 + 1 + 1 ≠ w.heap.size + 1 + 1; omega)) (by show w.heap.size + 1 + 1 + 1 ≠ w.heap.size + 1 + 1; omega)) (by show w.heap.size + 1 + 1 + 1 ≠ w.heap.size + 1 + 1; omega))]
      rfl
    have u7 := (((h1.set_new (p := ⟨w.heap.size + 1 + 1, 0, none⟩) (v := .int .i64 0) (by show w.heap.size ≤ w.heap.size + 1 + 1; omega)).set_new (p := ⟨w.heap.size + 1 + 1, 1, none⟩) (v := .int .i64 0) (by show w.heap.size ≤ w.heap.size + 1 + 1; omega)).set_new (p := ⟨w.heap.size + 1 + 1, 2, none⟩) (v := .int .i64 0) (by show w.heap.size ≤ w.heap.size + 1 + 1; omega)).set_new (p := ⟨w.heap.size + 1 + 1 + 1, 0, none⟩) (v := .bool false) (by show w.heap.size ≤ w.heap.size + 1 + 1 + 1; omega)
    generalize (((W.setCell ⟨w.heap.size + 1 + 1, 0, none⟩ (.int .i64 0)).setCell ⟨w.heap.size + 1 + 1, 1, none⟩ (.int .i64 0)).setCell ⟨w.heap.size + 1 + 1, 2, none⟩ (.int .i64 0)).setCell ⟨w.heap.size + 1 + 1 + 1, 0, none⟩ (.bool false) = W7 at *
    have e3 := (far7 D hDn2 hDn3).trans hdef
    have e4 : (W7.putObj D (.deferred none)).heap[w.heap.size + 1 + 1]? = some (.cells #[.int .i64 0, .int .i64 0, .int .i64 0] 48 (0, 0)) := (World.putObj_heap_other (fun e => hDn2 e.symm)).trans s2
    have e5 : (W7.putObj D (.deferred none)).heap[w.heap.size + 1 + 1 + 1]? = some (.cells #[.bool false] 4 (0, 0)) := (World.putObj_heap_other (fun e => hDn3 e.symm)).trans s3
    have r0 := cell_at e4 0
    have r1 := cell_at e4 1
    have r2 := cell_at e4 2
    have r3 := cell_at e5 0
    simp only [List.getElem?_toArray, List.getElem?_cons_zero, List.getElem?_cons_succ] at r0 r1 r2 r3
    have hxl : xs.length = L.length := HPM.out.length_eq
    have hque := pop_que HH.out (WF := W7.putObj D (.deferred none)) M1.out M2.out HQ.out hm (fun k hk => (World.putObj_heap_other (by omega)).trans (far7 k (by omega) (by omega))) (fun k hk => (hgl k (m3 ▸ hk)).1) (by exact a4) ⟨by simp, by exact HH.out.small.2⟩ ⟨hnum.1, hnum.2.1, by show 0 ≤ s.pops + (xs.length : Int); omega, by show s.pops + (xs.length : Int) ≤ 1000; omega, hnum.2.2.2.2⟩
    refine ⟨by simp, .inl ⟨_, _, rfl, run_takeDeferred e3, ?_⟩⟩
    refine ⟨.tuple #[.agg #[.int .i64 0, .int .i64 0, .int .i64 0], .bool false], ?_, hlv2, xs, m3, upd_q (upd_put u7 hDz _) m3, HBB.out, .inl ⟨rfl, HPM.out, hst, hque⟩⟩
    simp [results, Try.f19, go_sem, r0, r1, r2, r3]
  case stop =>
    rintro D c xs W hD ⟨rfl, pr, x, rest, rfl, h1, k2, k3, hq, hm, hst, hx, hB, hE⟩ hdef
    obtain ⟨hlv2, m1, m2, m3, m4, m5⟩ := hE
    have hperm : (pr ++ [x] ++ rest).Perm L := m4.trans a3
    have hDz : w.heap.size ≤ D := by have := HZ0.out; omega
    have hDn2 : D ≠ w.heap.size + 1 + 1 := fun e => by subst e; rw [k2] at hdef; cases hdef
    have hDn3 : D ≠ w.heap.size + 1 + 1 + 1 := fun e => by subst e; rw [k3] at hdef; cases hdef
    have e4 : (W.putObj D (.deferred none)).heap[w.heap.size + 1 + 1]? = some (.cells #[.int .i64 x.1.1, .int .i64 x.1.2, .int .i64 x.2] 48 (0, 0)) := (World.putObj_heap_other (fun e => hDn2 e.symm)).trans k2
    have e5 : (W.putObj D (.deferred none)).heap[w.heap.size + 1 + 1 + 1]? = some (.cells #[.bool true] 4 (0, 0)) := (World.putObj_heap_other (fun e => hDn3 e.symm)).trans k3
    have r0 := cell_at e4 0
    have r1 := cell_at e4 1
    have r2 := cell_at e4 2
    have r3 := cell_at e5 0
    simp only [List.getElem?_toArray, List.getElem?_cons_zero, List.getElem?_cons_succ] at r0 r1 r2 r3
    have hxl : (pr ++ [x]).length + rest.length = L.length := by have := hperm.length_eq; rw [List.length_append] at this; exact this
    have hdl : (dropL K x.1).length ≤ K.length := List.length_filter_le _ _
    have hque := pop_que HH.out (WF := W.putObj D (.deferred none)) m1 m2 hq hm (fun k hk => World.putObj_heap_other (by omega)) (fun k hk => (hgl k (m3 ▸ hk)).1) (by exact a4) ⟨by omega, by omega⟩ ⟨hnum.1, hnum.2.1, by show 0 ≤ s.pops + ((pr ++ [x]).length : Int); omega, by show s.pops + ((pr ++ [x]).length : Int) ≤ 1000; omega, hnum.2.2.2.2⟩
    refine wpIn_wide.2 ?_
    go_wp2_with fail
    refine ⟨by simp, .inl ⟨_, _, rfl, run_takeDeferred hdef, ?_⟩⟩
    refine ⟨.tuple #[.agg #[.int .i64 x.1.1, .int .i64 x.1.2, .int .i64 x.2], .bool true], ?_, hlv2, pr ++ [x], m3, upd_q (upd_put h1 hDz _) m3, hB, .inr ⟨pr, x, rest, rfl, rfl, hperm, hst, hx, hque⟩⟩
    simp [results, Try.f19, go_sem, r0, r1, r2, r3]
end Go.Proofs.Ythpdamkpefgmaaa.LazyPop
