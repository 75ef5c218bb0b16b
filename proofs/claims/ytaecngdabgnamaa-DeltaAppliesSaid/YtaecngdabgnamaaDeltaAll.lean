/- Layer 12: All, and the question which counts are as they were, walked. -/
import Derived.Test.YtaecngdabgnamaaDeltaAdd
import Derived.Test.YtaecngdabgnamaaMRise
import Derived.Test.YtaecngdabgnamaaMDel
namespace Go.Proofs.Ytaecngdabgnamaa.Delta
open Go.RowKit Go.Maps Go.Proofs.YtaecngdabgnamaaW.PrintWords Go.Proofs.YtaecngdabgnamaaW.PrintLast Go.Proofs.YtaecngdabgnamaaW.PrintMore Base Foot ExtTail PMap DMath SeqPure
set_option linter.unusedVariables false
set_option linter.unusedSimpArgs false
attribute [local go_sem ↓] Go.wp_at_zero Go.wp_at_succ

theorem own_base {w : World} {B B' : Nat} {e : TypeId} {sz n : Nat} {v : Value} {xs : List Value} (h : w.ownsRow B e sz v n xs) (hB : B' ≤ B) : w.ownsRow B' e sz v n xs := by
  refine ⟨h.1, ?_⟩
  rcases h.2 with h2 | ⟨g, cap, cur, e1, hg, r⟩
  · exact .inl h2
  · exact .inr ⟨g, cap, cur, e1, by omega, r⟩
set_option maxHeartbeats 800000 in
theorem all_nil (w : World) : Calls Try.prog 29 #[.pointer none] w fun e w' => e = .returned (.slice none 0 0) ∧ w' = w := by
  go_enter Try.func29, Try.ntmps29
  go_wp2_with fail
  go_ret
  exact ⟨rfl, rfl⟩
theorem KB.of_dt {w : World} {b : Nat} {mv : Value} {m : List (PK × Int)} (h : DT w b mv m) : ∃ mr, mv = .map mr ∧ KB (w.alloc (.cells #[.map mr] 67)) w.heap.size m := by
  have hb := (Below.refl _ w).alloc (Nat.le_refl _)
  rcases h.map with ⟨rfl, rfl⟩ | ⟨mb, rfl, h1⟩
  · exact ⟨none, rfl, .inl ⟨cell_at (heap_alloc_new _ _) 0, rfl⟩⟩
  · exact ⟨some mb, rfl, .inr ⟨mb, cell_at (heap_alloc_new _ _) 0, h1.below (hb _)⟩⟩
set_option maxHeartbeats 1600000 in
set_option maxRecDepth 100000 in
theorem all_any {w : World} {b : Nat} {mv : Value} {m : List (PK × Int)} (h : DT w b mv m) (hl : m.length ≤ 900000) :
    Calls Try.prog 29 #[.pointer (some ⟨b, 0, none⟩)] w fun e w' => ∃ (v : Value) (l : List PK), e = .returned v ∧ l.Perm (m.map (·.1)) ∧ RiseP l ∧ w'.ownsRow w.heap.size tPk 2 v l.length (l.flatMap encP) ∧ Below w.heap.size w w' := by
  have c0 := cell_at h.blk 0
  simp only [List.getElem?_toArray, List.getElem?_cons_zero] at c0
  obtain ⟨mr, rfl, hk⟩ := KB.of_dt h
  have hs := sorted_any hk hl
  have hk1 := keys_any mr w
  have hb := (Below.refl _ w).alloc (Nat.le_refl _) (.cells #[.map mr] 67)
  have HB := Lib.hid hb
  clear h hk hb hl
  go_enter Try.func29, Try.ntmps29
  go_wp2_with fail
  refine hk1.mono ?_
  rintro e w1 ⟨rfl, rfl⟩
  go_wp2_with fail
  refine hs.mono ?_
  rintro e w2 ⟨v, l, rfl, h1, h2, h3, h4⟩
  have hb2 := HB.out.trans (h4.mono (by simp))
  have h5 := own_base h3 (B' := w.heap.size) (by simp)
  obtain ⟨A, cap, rfl⟩ : ∃ A cap, v = .slice A l.length cap := by
    rcases h3.2 with ⟨rfl, h0⟩ | ⟨g, cap, cur, rfl, _⟩
    · exact ⟨none, 0, by rw [h0]⟩
    · exact ⟨_, _, rfl⟩
  go_wp2_with fail
  go_ret
  exact ⟨_, l, rfl, h1, h2, h5, hb2⟩
set_option maxHeartbeats 1600000 in
set_option maxRecDepth 100000 in
/-- is a pair's count as it was? -/
theorem same_any {w : World} {b bc : Nat} {mv : Value} {m : List (PK × Int)} (h : DT w b mv m) (hc : w.cell? ⟨bc, 0, none⟩ = some (.pointer (some ⟨b, 0, none⟩))) (p : PK) (hp : P64 p) (n : Int) :
    Calls Try.prog 52 #[vP p, .int .i64 n, .pointer (some ⟨bc, 0, none⟩)] w fun e w' => e = .returned (.bool (n == res m p)) ∧ Below w.heap.size w w' := by
  obtain ⟨p1, p2⟩ := p
  have hb := (Below.refl _ w).alloc (Nat.le_refl _) (.cells #[.int .i64 p1, .int .i64 p2] 23)
  have x2 := heap_alloc_new w (.cells #[.int .i64 p1, .int .i64 p2] 23)
  have x0 := cell_at x2 0
  have x1 := cell_at x2 1
  simp only [List.getElem?_toArray, List.getElem?_cons_zero, List.getElem?_cons_succ] at x0 x1
  have c1 := (hb.cell (World.block_lt_of_cell? _ _ hc)).trans hc
  have hg := get_any (h.below hb) (p1, p2) hp
  have HB := Lib.hid hb
  unfold vP at hg ⊢
  clear h hb hc x2
  go_enter Try.func52, Try.ntmps52
  go_wp2_with fail
  refine hg.mono ?_
  rintro e w1 ⟨rfl, hb1⟩
  go_wp2_with fail
  go_ret
  exact ⟨rfl, HB.out.trans (hb1.mono (by simp))⟩
end Go.Proofs.Ytaecngdabgnamaa.Delta
