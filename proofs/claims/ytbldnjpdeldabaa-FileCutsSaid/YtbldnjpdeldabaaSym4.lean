/- Layer 9: Join in one contract; Merges; the document's example. -/
import Derived.Test.YtbldnjpdeldabaaSym3
import Derived.Test.YtbldnjpdeldabaaSymPure2
import Derived.StillTailTactics
namespace Go.Proofs.Ytbldnjpdeldabaa.Sym4
open Go.RowKit Go.Maps Go.WideMaps Base Foot SymPure Sym Sym2 Sym3
set_option linter.unusedVariables false

theorem join_any {B : Nat} {w : World} {b : Nat} {lv mv : Value} {T : List J} (h : SymT B w b lv mv T) (a c : Int) (ha : In64 a) (hc : In64 c) (hn : T.length < 1000000) :
    Calls Try.prog 17 #[.pointer (some ⟨b, 0, none⟩), .int .i64 a, .int .i64 c] w fun e w' => e = .returned (.tuple #[.int .i64 (joinI T a c), .int .i64 (joinE T a c)]) ∧
      ∃ lv' mv', SymT B w' b lv' mv' (joinT T a c) ∧ Upd (Foot b lv mv) (Foot b lv' mv') w w' := by
  by_cases hE : joinE T a c = 0
  · refine (join_yes h a c ha hc hE hn).mono ?_
    rintro e w' ⟨rfl, lv', mv', h1, h2⟩
    unfold joinI joinT
    rw [if_pos hE, if_pos hE, hE]
    exact ⟨rfl, lv', mv', h1, h2⟩
  · refine (join_no h a c ha hc hE).mono ?_
    rintro e w' ⟨rfl, h1⟩
    unfold joinI joinT
    rw [if_neg hE, if_neg hE]
    exact ⟨rfl, lv, mv, h.below h1, Upd.of_below h1⟩

set_option maxHeartbeats 400000 in
set_option maxRecDepth 100000 in
theorem merges_nil (w : World) : Calls Try.prog 27 #[.pointer none] w fun e w' => e = .returned (.slice none 0 0) ∧ w = w' := by
  go_enter Try.func27, Try.ntmps27
  go_wp2
  refine wp_loop_rounds 1 ?_
  rw [rounds_succ]
  go_wp2_with (go_at_call 23; refine (Sym.len_nil _).mono ?_; rintro e w' ⟨rfl, rfl⟩)
  go_ret
  exact ⟨rfl, rfl⟩

def ex1 : List J := [⟨97, 98, ⟨#[97, 98]⟩⟩]
theorem ex_join : joinE [] 97 98 = 0 := by decide +kernel
theorem ex_joinT : joinT [] 97 98 = ex1 := by
  unfold joinT
  rw [if_pos ex_join]
  have : textS [] 97 ++ textS [] 98 = ⟨#[97, 98]⟩ := by decide +kernel
  rw [this]
  rfl
theorem ex_joinI : joinI [] 97 98 = 256 := by decide +kernel
theorem ex_text : textS ex1 256 = ⟨#[97, 98]⟩ := by decide +kernel
theorem ex_there : there ex1 256 = true := by decide +kernel
theorem ex_again : joinE ex1 97 98 = 8 := by decide +kernel
theorem ex_againI : joinI ex1 97 98 = 0 := by decide +kernel

set_option maxHeartbeats 400000 in
set_option maxRecDepth 100000 in
theorem awake_any (w : World) : Calls Try.prog 15 #[] w fun e w' => e = .returned (.bool true) ∧ Below w.heap.size w w' := by
  have i1 : In64 97 := by unfold In64; omega
  have i2 : In64 98 := by unfold In64; omega
  have i3 : In64 256 := by unfold In64; omega
  go_enter Try.func15, Try.ntmps15
  go_wp2_with fail
  refine (new_any _).mono ?_
  rintro e w1 ⟨rfl, h1, b1⟩
  go_wp2_with fail
  refine (join_any h1 97 98 i1 i2 (by simp)).mono ?_
  rintro e w2 ⟨rfl, lv2, mv2, h2, u2⟩
  rw [ex_joinT] at h2
  rw [ex_joinI, ex_join]
  replace b1 := b1.trans (u2.below b1.size (fun k hk => (h1.foot_lt k hk).1))
  go_wp2_with fail
  refine (text_any h2 256 i3).mono ?_
  rintro e w3 ⟨rfl, b3⟩
  have h3 := h2.below b3
  replace b1 := b1.trans (b3.mono b1.size)
  rw [ex_text, ex_there]
  go_wp2_with fail
  refine (join_any h3 97 98 i1 i2 (by simp [ex1])).mono ?_
  rintro e w4 ⟨rfl, lv4, mv4, h4, u4⟩
  replace b1 := b1.trans (u4.below b1.size (fun k hk => (h3.foot_lt k hk).1))
  rw [ex_againI, ex_again]
  go_wp2
  go_ret
  exact ⟨rfl, b1⟩
end Go.Proofs.Ytbldnjpdeldabaa.Sym4
