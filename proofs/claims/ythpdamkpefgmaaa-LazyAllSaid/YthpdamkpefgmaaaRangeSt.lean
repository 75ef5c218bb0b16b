/- A range over a function whose iterator keeps state of its own in cells: the law of the statement, the iterator's word being given for each invariant that abides the iterator's own steps. -/
import Derived.Test.YthpdamkpefgmaaaFoot
import Derived.RangeFuncNested
import Derived.RangeFuncLeaves
namespace Go.Proofs.Ythpdamkpefgmaaa.RangeSt
open Go.RowKit Base Foot
set_option linter.unusedVariables false
variable {F : Fence} {n : Nat} {P : Program}

/-- the iterator's word: whatever the caller's J, if J abides what the iterator writes, and each call of yield at an element in the state Mid is served -/
def SeqSt {α : Type} (F : Fence) (n : Nat) (P : Program) (gf : Nat) (lb : Array Value) (encs : α → Array Value) (Ft : Nat → Prop) (Mid : List α → α → World → Prop) (End : List α → World → Prop) (Kp : World → World → Prop) (w : World) : Prop :=
  ∀ (l : Nat) (J Jx : List α → World → Prop) (W : World), w.grownBy W none → (∀ pre A B, J pre A → Upd Ft Ft A B → J pre B) →
    (∀ pre x W1, J pre W1 → Mid pre x W1 → YieldAt F (n - 1) P l (encs x) W1 fun e W' =>
      (e = .returned (.bool true) ∧ J (pre ++ [x]) W' ∧ Kp W1 W') ∨ (e = .returned (.bool false) ∧ Jx (pre ++ [x]) W')) →
    J [] W →
    CallsIn F n P gf (#[.func (.yield l) #[] #[]] ++ lb) W fun e W' => (∃ v, e = .returned v) ∧ ((∃ xs, End xs W' ∧ J xs W') ∨ (∃ pre, Jx pre W'))

theorem wpIn_rangeFunc_st {α : Type} {g : Operand} {ps : Array Tmp} {assign body : Code} {Q : Exit → Act → World → Prop} {a : Act} {w : World}
    (hro : F.round = none) (h1 : 1 ≤ n) {gf : Nat} {lb : Array Value} (hg : a.eval g = .func (.func gf) #[] lb) (hFg : F.fn gf) (eg : ∀ args w, (callFunc gf args).run P w = .ok (.enter gf args) w)
    {encs : α → Array Value} (hps : ∀ x, (encs x).size = ps.size) {Ft : Nat → Prop} (hFt : ∀ k, Ft k → k < w.heap.size)
    {Mid : List α → α → World → Prop} {End : List α → World → Prop} {Kp : World → World → Prop} (hMid : ∀ x, OwnFrom w.heap.size fun pre => Mid pre x) (hEnd : OwnFrom w.heap.size End)
    (hKt : ∀ {A B C : World}, Kp A B → Kp B C → Kp A C) (hKb : ∀ (W : World) (l : Nat) (o o' : Obj), w.heap.size ≤ l → W.heap[l]? = some o → o.isCells = false → Kp W (W.putObj l o'))
    (hseq : SeqSt F (n - 1) P gf lb encs Ft Mid End Kp w)
    (I : List α → World → Prop) (Ix : Code → List α → World → Prop) (hI : OwnFrom w.heap.size I) (hIx : ∀ c, OwnFrom w.heap.size (Ix c)) (h0 : I [] w) (hIF : ∀ pre A B, I pre A → Upd Ft Ft A B → I pre B)
    (Ax : α → Act → World → Prop) (hAx : ∀ x a', OwnFrom w.heap.size fun (_ : Unit) W => Ax x a' W)
    (hassign : ∀ (l : Nat) (pre : List α) (x : α) (W : World) (K : Act → World → Prop), I pre W → Mid pre x W → (∀ a' W', KeepsFrom w.heap.size W W' → Kp W W' → I pre W' → Mid pre x W' → Ax x a' W' → K a' W') →
      assign.wpIn (F.inRound l) (n - 1 - 1) P (Exit.then K fun _ _ _ => False) { tmps := (ps.zip (encs x)).foldl (fun t (p, v) => t.setIfInBounds p v) a.tmps, defers := [] } W)
    (hbody : ∀ (l : Nat) (pre : List α) (x : α) (a' : Act) (W : World), w.heap.size ≤ l → I pre W → Mid pre x W → Ax x a' W → body.wpIn (F.inRound l) (n - 1 - 1) P (ownPostG w.heap.size Kp I Ix (pre ++ [x]) W) a' W)
    (hdone : ∀ (D : Nat) (xs : List α) (W : World), w.heap.size ≤ D → End xs W → I xs W → W.heap[D]? = some (.deferred (some [])) → Q .normal { a with defers := { target := .collected D, args := #[] } :: a.defers } W)
    (hstop : ∀ (D : Nat) (c : Code) (pre : List α) (W : World), w.heap.size ≤ D → Ix c pre W → W.heap[D]? = some (.deferred (some [])) → c.wpIn F n P Q { a with defers := { target := .collected D, args := #[] } :: a.defers } W) :
    (Code.rangeFunc g ps assign body).wpIn F n P Q a w := by
  refine wpIn_rangeFunc fun fn hfn => ?_
  rw [hro]
  obtain ⟨rec, hrec⟩ : ∃ rec : LoopState → Option Code → Loop, rec = fun st pe => { state := st, pending := pe, fn, tmps := a.tmps, params := ps, assign, body, defers := w.heap.size } := ⟨_, rfl⟩
  generalize hD : w.heap.size = D at *
  have hgr : w.grownBy ((w.alloc (.deferred (some []))).alloc (.loop (rec .ready none))) none := (World.grownBy_alloc w _ none).trans (World.grownBy_alloc _ _ none)
  have hL : ((w.alloc (.deferred (some []))).alloc (.loop (rec .ready none))).heap[D + 1]? = some (.loop (rec .ready none)) := by
    have := heap_alloc_new (w.alloc (.deferred (some []))) (.loop (rec .ready none))
    simpa [hD] using this
  have hK : ((w.alloc (.deferred (some []))).alloc (.loop (rec .ready none))).heap[D]? = some (.deferred (some [])) := by
    have := heap_alloc_new w (.deferred (some []))
    rw [hD] at this
    exact alloc_blk this
  have hI1 := hI.alloc (.loop (rec .ready none)) (hI.alloc (.deferred (some [])) h0)
  have hrun : (Instr.enterLoop fn a.tmps ps assign body none).run P w = .ok (D + 1, [{ target := .collected D, args := #[] }]) ((w.alloc (.deferred (some []))).alloc (.loop (rec .ready none))) := by
    rw [hrec, ← hD]
    exact run_enterLoop_outer _ _ _ _ _
  generalize (w.alloc (.deferred (some []))).alloc (.loop (rec .ready none)) = W1 at *
  have hDn : ¬ Ft D := fun h => by have := hFt D h; omega
  have hDn1 : ¬ Ft (D + 1) := fun h => by have := hFt (D + 1) h; omega
  refine ⟨D + 1, [{ target := .collected D, args := #[] }], W1, { target := .fn (.func gf) lb, args := #[.func (.yield (D + 1)) #[] #[]] }, W1, gf, #[.func (.yield (D + 1)) #[] #[]] ++ lb, W1, hrun, ?_, ?_, ?_, fun _ => h1, ?_⟩
  · simp only [resolve, hg]
    simp [go_sem]
  · intro f' hf'; simp [Target.leads] at hf'; subst hf'; exact hFg
  · simp [invoke, go_sem, eg]
  refine (hseq (D + 1)
    (fun pre W => I pre W ∧ W.heap[D + 1]? = some (.loop (rec .ready none)) ∧ W.heap[D]? = some (.deferred (some [])))
    (fun pre W => ∃ c, Ix c pre W ∧ W.heap[D + 1]? = some (.loop (rec .done (some c))) ∧ W.heap[D]? = some (.deferred (some []))) W1 hgr
    (fun pre A B h hu => ⟨hIF pre A B h.1 hu, (hu.block _ (block_lt h.2.1) hDn1).trans h.2.1, (hu.block _ (block_lt h.2.2) hDn).trans h.2.2⟩) ?_ ⟨hI1, hL, hK⟩).mono ?_
  · rintro pre x W ⟨hi, hl, hk⟩ hm
    have hlt : D + 1 < W.heap.size := block_lt hl
    have hy := run_yield (P := P) (args := encs x) hl (by rw [hrec]; exact hps x)
    rw [hrec] at hy
    refine ⟨fn, _, assign, body, hy, roundIn_of_wpIn hfn (hassign (D + 1) pre x W _ hi hm fun a' W' hkf hkp hi' hm' hax => ?_)⟩
    have hl' := hkf.same _ _ (by omega) hl rfl
    have hk' := hkf.same _ _ (Nat.le_refl _) hk rfl
    refine ⟨_, run_beginRound hl' (by rw [hrec]), ?_⟩
    have hl2 : (W'.putObj (D + 1) (.loop { rec .ready none with state := .busy })).heap[D + 1]? = some (.loop { rec .ready none with state := .busy }) := World.putObj_heap_same (block_lt hl')
    have hk2 : (W'.putObj (D + 1) (.loop { rec .ready none with state := .busy })).heap[D]? = some (.deferred (some [])) := (World.putObj_heap_other (by omega)).trans hk'
    have hw2 : Kp W' (W'.putObj (D + 1) (.loop { rec .ready none with state := .busy })) := hKb _ _ _ _ (by omega) hl' rfl
    refine wpIn_mono (hbody (D + 1) pre x a' _ (by omega) (hI.putObj _ hi' (by omega) hl' rfl) ((hMid x).putObj _ hm' (by omega) hl' rfl) ((hAx x a').putObj (s := ()) _ hax (by omega) hl' rfl)) ?_
    have fin : ∀ (jump : Option Code) (W3 : World), KeepsFrom D (W'.putObj (D + 1) (.loop { rec .ready none with state := .busy })) W3 →
        (Instr.endRound (D + 1) jump).run P W3 = .ok (.bool jump.isNone) (W3.putObj (D + 1) (.loop (rec (if jump.isNone then .ready else .done) jump))) ∧
        W3.heap[D + 1]? = some (.loop { rec .ready none with state := .busy }) ∧
        (W3.putObj (D + 1) (.loop (rec (if jump.isNone then .ready else .done) jump))).heap[D + 1]? = some (.loop (rec (if jump.isNone then .ready else .done) jump)) ∧
        (W3.putObj (D + 1) (.loop (rec (if jump.isNone then .ready else .done) jump))).heap[D]? = some (.deferred (some [])) := fun jump W3 hk3 => by
      have hl3 := hk3.same _ _ (by omega) hl2 rfl
      have := run_endRound (P := P) jump hl3
      rw [hrec] at this ⊢
      exact ⟨this, by rw [hrec] at hl3; exact hl3, World.putObj_heap_same (block_lt hl3), (World.putObj_heap_other (by omega)).trans (hk3.same _ _ (Nat.le_refl _) hk2 rfl)⟩
    rintro e a3 W3 hp
    cases e with
    | normal =>
      obtain ⟨hk3, hkp3, hi3⟩ := hp
      obtain ⟨hr, hl3, hl4, hk4⟩ := fin none W3 hk3
      exact ⟨_, _, hr, .inl ⟨rfl, ⟨hI.putObj _ hi3 (by omega) hl3 rfl, hl4, hk4⟩, hKt (hKt hkp (hKt hw2 hkp3)) (hKb _ _ _ _ (by omega) hl3 rfl)⟩⟩
    | ret =>
      obtain ⟨hk3, hi3⟩ := hp
      obtain ⟨hr, hl3, hl4, hk4⟩ := fin (some .ret) W3 hk3
      exact ⟨_, _, hr, .inr ⟨rfl, .ret, (hIx _).putObj _ hi3 (by omega) hl3 rfl, hl4, hk4⟩⟩
    | exit id =>
      obtain ⟨hk3, hi3⟩ := hp
      obtain ⟨hr, hl3, hl4, hk4⟩ := fin (some (.exit id)) W3 hk3
      exact ⟨_, _, hr, .inr ⟨rfl, .exit id, (hIx _).putObj _ hi3 (by omega) hl3 rfl, hl4, hk4⟩⟩
    | goto t =>
      obtain ⟨hk3, hi3⟩ := hp
      obtain ⟨hr, hl3, hl4, hk4⟩ := fin (some (.goto t)) W3 hk3
      exact ⟨_, _, hr, .inr ⟨rfl, .goto t, (hIx _).putObj _ hi3 (by omega) hl3 rfl, hl4, hk4⟩⟩
    | panic ch => exact hp.elim
    | outgrown => exact hp.elim
  · rintro e W2 ⟨⟨v, rfl⟩, (⟨xs, hE, hi, hl, hk⟩ | ⟨pre, c, hi, hl, hk⟩)⟩
    · exact ⟨none, _, by have := run_endLoop (P := P) hl (by rw [hrec]; simp); rw [hrec] at this; exact this, hdone _ xs _ (Nat.le_refl _) (hEnd.putObj _ hE (by omega) hl rfl) (hI.putObj _ hi (by omega) hl rfl) ((World.putObj_heap_other (by omega)).trans hk)⟩
    · exact ⟨some c, _, by have := run_endLoop (P := P) hl (by rw [hrec]; simp); rw [hrec] at this; exact this, hstop _ c pre _ (Nat.le_refl _) ((hIx c).putObj _ hi (by omega) hl rfl) ((World.putObj_heap_other (by omega)).trans hk)⟩
end Go.Proofs.Ythpdamkpefgmaaa.RangeSt
