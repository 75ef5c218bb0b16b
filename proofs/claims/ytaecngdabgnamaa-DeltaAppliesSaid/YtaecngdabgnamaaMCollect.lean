/- slices.AppendSeq, Collect of a map's keys (pairs), walked; then sorted by a comparison of their numbers. -/
import Derived.Test.YtaecngdabgnamaaMIter
import Derived.Test.YtaecngdabgnamaaCmp3
import Derived.Test.YtaecngdabgnamaaSeqPure
import Derived.Test.YtaecngdabgnamaaSortK
import Derived.Test.YtaecngdabgnamaaShelf
import Derived.Shelf.SlSortCmp.WholeK
import Derived.Deep.DrawnRows
import Derived.Maps.OwnIn
import Derived.RangeFuncLeaves
import Derived.RangeFuncBox
namespace Go.Proofs.Ytaecngdabgnamaa.PMap
open Go.RowKit Go.Maps Go.Sort Go.Shelf Base Foot SortK
set_option linter.unusedVariables false
set_option linter.unusedSimpArgs false
attribute [local go_sem] Oper.semAt_some

abbrev PQ := {p : PK // P64 p}
def encP (x : PK) : List Value := [.int .i64 x.1, .int .i64 x.2]
theorem encP_len (x : PK) : (encP x).length = 2 := rfl
def encQ (x : PQ) : List Value := encP x.1
theorem infoPk : (Try.prog.info? 23).map (fun i => (i.zero, i.size, i.bytes)) = some (some (.agg #[.int .i64 0, .int .i64 0]), 2, 16) := by kernel_rfl
/-- cells lie as they lay where one block that is no cells has turned -/
theorem cells_own {W W' : World} {row : Option Nat} {D : Nat} (hg : W.grownBy W' row) (hr : ∀ r, row = some r → D ≤ r ∧ ∃ o : Obj, W.heap[r]? = some o ∧ o.isCells = false) {k : Nat} {arr : Array Value} {t : TypeId} {fz : Nat × Nat} (hk : W.heap[k]? = some (.cells arr t fz)) : W'.heap[k]? = W.heap[k]? :=
  hg.block k (block_lt hk) (fun e => by
    obtain ⟨_, o, ho, hc⟩ := hr k e.symm
    rw [hk] at ho; cases ho; cases hc)
theorem row_own {W W' : World} {row : Option Nat} {D : Nat} (hg : W.grownBy W' row) (hr : ∀ r, row = some r → D ≤ r ∧ ∃ o : Obj, W.heap[r]? = some o ∧ o.isCells = false) {B : Nat} {e : TypeId} {sz n : Nat} {v : Value} {xs : List Value} (h : W.ownsRow B e sz v n xs) : W'.ownsRow B e sz v n xs :=
  own_keep h fun k hk => by
    rcases h.2 with ⟨rfl, _⟩ | ⟨g, cap, cur, rfl, _, hgb, _⟩
    · cases hk
    · cases hk; exact cells_own hg hr hgb
/-- what has come lies in a row of the call's own -/
def CI (w : World) (pre : List PQ) (W : World) : Prop :=
  Below w.heap.size w W ∧ ∃ v, Boxed W w.heap.size 44 v ∧ W.ownsRow w.heap.size 23 2 v pre.length (pre.flatMap encQ) ∧ (v = .slice none 0 0 ↔ pre = [])
theorem CI.own {w : World} {D : Nat} (hD : w.heap.size ≤ D) : OwnFrom D (CI w) := by
  rintro pre W W' row ⟨h1, v, h2, h3, h4⟩ hg hr
  exact ⟨h1.grown hg h1.size (fun k e => Nat.le_trans hD (hr k e).1), v, (cells_own hg hr h2).trans h2, row_own hg hr h3, h4⟩
set_option maxHeartbeats 3200000 in
set_option maxRecDepth 100000 in
theorem append_any (Bm : Nat) (S Sp : List PQ → Prop) (N : Nat) (hN : N ≤ 1000000) (w : World)
    (hseq : SeqStopsK Fence.wide 19 Try.prog FK1 #[.pointer (some ⟨Bm, 0, none⟩)] (fun x : PQ => #[vP x.1]) KeepsWalks S Sp N w) :
    Calls Try.prog 83 #[.slice none 0 0, .func (.func FK1) #[] #[.pointer (some ⟨Bm, 0, none⟩)]] w fun e w' => ∃ (v : Value) (ss : List PQ), e = .returned v ∧ S ss ∧ w'.ownsRow w.heap.size 23 2 v ss.length (ss.flatMap encQ) ∧ (v = .slice none 0 0 ↔ ss = []) ∧ Below w.heap.size w w' := by
  obtain ⟨i0, hi, hz0, hz1, hz2⟩ := info_parts infoPk
  refine (callsIn_wide (n := 20)).1 ?_
  refine callsIn_of_wp_marks Try.func83 rfl trivial ?_ rfl
  simp only [Try.ntmps83, List.size_toArray, List.length_cons, List.length_nil, Nat.reduceAdd, Nat.reduceSub, Array.replicate_succ, Array.replicate_zero, List.push_toArray, List.append_toArray, List.nil_append, List.cons_append]
  gi_wp2
  have hb0 := (Below.refl w.heap.size w).alloc (Nat.le_refl _) (.cells #[.slice none 0 0] 44)
  have h0 : CI w [] (w.alloc (.cells #[.slice none 0 0] 44)) := ⟨hb0, _, Boxed.new _ _ _, World.ownsRow_nil _ _ _ _, by simp⟩
  have hs0 : (w.alloc (.cells #[.slice none 0 0] 44)).heap.size = w.heap.size + 1 := by simp
  refine wpIn_rangeFunc_ownH rfl (by omega) rfl trivial (enters_of Try.func71 (by kernel_rfl) rfl) hseq (fun h k => h.trans k) (fun W l o o' _ h _ hw => KeepsWalks.putObj _ h hw) hb0 (fun _ => rfl)
    (CI w) (fun _ _ _ => False) (CI.own (by rw [hs0]; omega)) (fun _ _ _ _ _ h _ _ => h.elim) h0
    (fun x a' W => ∃ Bx, W.heap[Bx]? = some (.cells #[.int .i64 x.1.1, .int .i64 x.1.2] 23 (0, 0)) ∧ a' = { tmps := #[.slice none 0 0, .func (.func FK1) #[] #[.pointer (some ⟨Bm, 0, none⟩)], .pointer (some ⟨w.heap.size, 0, none⟩), undef, .slice none 0 0, .pointer (some ⟨Bx, 0, none⟩), .func (.func FK1) #[] #[.pointer (some ⟨Bm, 0, none⟩)], vP x.1, undef, undef, undef, undef, undef], defers := [] })
    (fun x a' u W W' row h hg hr => by obtain ⟨Bx, h1, h2⟩ := h; exact ⟨Bx, (cells_own hg hr h1).trans h1, h2⟩) ?assign ?body ?done (fun _ _ _ _ _ _ h _ => h.elim)
  case assign =>
    rintro l pre ⟨⟨xa, xb⟩, hx⟩ W K hI hK
    unfold vP
    gi_wp2
    exact hK _ _ ((KeepsOthers.alloc _ _).from _) (KeepsWalks.alloc _ _) ((CI.own (D := w.heap.size) (Nat.le_refl _)).alloc _ hI) ⟨_, heap_alloc_new _ _, rfl⟩
  case body =>
    rintro l pre ⟨⟨xa, xb⟩, hx⟩ a' W hl ⟨lr, hlr⟩ ⟨h1, v, h2, h3, h4⟩ ⟨Bx, hBx, rfl⟩ hpl
    simp only at hBx
    obtain ⟨A, cap, rfl⟩ : ∃ A cap, v = .slice A pre.length cap := by
      rcases h3.2 with ⟨rfl, h0⟩ | ⟨g, cap, cur, rfl, _⟩
      · exact ⟨none, 0, by rw [h0]⟩
      · exact ⟨_, _, rfl⟩
    have c1 := h2.cell
    have x0 := cell_at hBx 0
    have x1 := cell_at hBx 1
    simp only [List.getElem?_toArray, List.getElem?_cons_zero, List.getElem?_cons_succ] at x0 x1
    have hzw := h1.size
    unfold vP
    gi_wp2_with (gi_at_builtin; refine wpListIn_append_own_at _ rfl _ _ 44 rfl w.heap.size 23 i0 _ 2 16 Try.underlying44 hi hz0 hz1 hz2 rfl (by decide) _ _ _ rfl (h3.alloc _) ⟨W.heap.size, 0, none⟩ 1 1 [.int .i64 xa, .int .i64 xb] rfl rfl (news_alloc rfl) (by simp [Value.oneCell']) (by unfold maxLen; omega) (by omega) (by simp; omega) ?_; intro v' w5 hown5 hgrow5 _ hat5; obtain ⟨g5, cap5, rfl⟩ := ownsRow_succ hown5; have hap := Boxed.appended h2 (by decide) h3 hzw (Nat.le_refl _) hown5 hgrow5; have d5 := hap.1.cell; have f5 := hap.1.frozen; clear hat5)
    obtain ⟨_, k1, k2, k3, k4⟩ := hap
    refine ⟨k3.from _, k3.walks, h1.trans k4, _, k1, ?_, by simp⟩
    simpa [encQ, encP] using k2
  case done =>
    rintro D ss W hD hS ⟨h1, v, h2, h3, h4⟩ hdef
    obtain ⟨A, cap, rfl⟩ : ∃ A cap, v = .slice A ss.length cap := by
      rcases h3.2 with ⟨rfl, h0⟩ | ⟨g, cap, cur, rfl, _⟩
      · exact ⟨none, 0, by rw [h0]⟩
      · exact ⟨_, _, rfl⟩
    have c1 := h2.cell
    have hDw : w.heap.size ≤ D := by rw [hs0] at hD; omega
    gi_wp2
    refine ⟨by simp, .inl ⟨_, _, rfl, run_takeDeferred hdef, ?_⟩⟩
    exact ⟨.slice A ss.length cap, by simp [results, Try.f83, go_sem], .slice A ss.length cap, ss, rfl, hS, ownsRow_putObj h3 _ hdef rfl, h4, h1.trans (belowK_b (w := w) (Nat.le_refl _) _ _ _ _ hDw hdef rfl rfl)⟩
set_option maxHeartbeats 800000 in
theorem collect_any (Bm : Nat) (S Sp : List PQ → Prop) (N : Nat) (hN : N ≤ 1000000) (w : World)
    (hseq : SeqStopsK Fence.wide 19 Try.prog FK1 #[.pointer (some ⟨Bm, 0, none⟩)] (fun x : PQ => #[vP x.1]) KeepsWalks S Sp N w) :
    Calls Try.prog 69 #[.func (.func FK1) #[] #[.pointer (some ⟨Bm, 0, none⟩)]] w fun e w' => ∃ (v : Value) (ss : List PQ), e = .returned v ∧ S ss ∧ w'.ownsRow w.heap.size 23 2 v ss.length (ss.flatMap encQ) ∧ (v = .slice none 0 0 ↔ ss = []) ∧ Below w.heap.size w w' := by
  have ha := append_any Bm S Sp N hN w hseq
  clear hseq
  go_enter Try.func69, Try.ntmps69
  go_wp2_with fail
  refine ha.mono ?_
  rintro e w' ⟨v, ss, rfl, hS, hrow, hnil, hb⟩
  go_wp2_with fail
  go_ret
  exact ⟨v, ss, rfl, hS, hrow, hnil, hb⟩
end Go.Proofs.Ytaecngdabgnamaa.PMap
