/- Layer 9: Join in one contract; Merges; the document's example. -/
import Derived.Test.YthinomhjhkhidaaSym3
import Derived.Test.YthinomhjhkhidaaSymPure2
import Derived.StillTailTactics
namespace Go.Proofs.Ythinomhjhkhidaa.Sym4
open Go.RowKit Go.Maps Go.WideMaps Base Foot SymPure Sym Sym2 Sym3
set_option linter.unusedVariables false

theorem join_any {B : Nat} {w : World} {b : Nat} {lv mv : Value} {T : List J} (h : SymT B w b lv mv T) (a c : Int) (ha : In64 a) (hc : In64 c) (hn : T.length < 1000000) :
    Calls Try.prog 54 #[.pointer (some ⟨b, 0, none⟩), .int .i64 a, .int .i64 c] w fun e w' => e = .returned (.tuple #[.int .i64 (joinI T a c), .int .i64 (joinE T a c)]) ∧
      ∃ lv' mv', SymT B w' b lv' mv' (joinT T a c) ∧ Upd (Foot b lv mv) (Foot b lv' mv') w w' := by
  by_cases hE : joinE T a c = 0
  · refine (join_yes h a c ha hc hE hn).mono ?_
    rintro e w' ⟨rfl, lv', mv', h1, h2⟩
    unfold joinI joinT
    rw [if_pos hE, if_pos hE, hE]
    exact ⟨rfl, lv', mv', h1, h2⟩
  · refine (join_no h a c ha hc hE).mono ?_
    rintro e w' ⟨rfl, h1⟩
    unfold joinI joinT
    rw [if_neg hE, if_neg hE]
    exact ⟨rfl, lv, mv, h.below h1, Upd.of_below h1⟩

def ex1 : List J := [⟨97, 98, ⟨#[97, 98]⟩⟩]
theorem ex_join : joinE [] 97 98 = 0 := by decide +kernel
theorem ex_joinT : joinT [] 97 98 = ex1 := by
  unfold joinT
  rw [if_pos ex_join]
  have : textS [] 97 ++ textS [] 98 = ⟨#[97, 98]⟩ := by decide +kernel
  rw [this]
  rfl
theorem ex_joinI : joinI [] 97 98 = 256 := by decide +kernel
theorem ex_text : textS ex1 256 = ⟨#[97, 98]⟩ := by decide +kernel
theorem ex_there : there ex1 256 = true := by decide +kernel
theorem ex_again : joinE ex1 97 98 = 8 := by decide +kernel
theorem ex_againI : joinI ex1 97 98 = 0 := by decide +kernel

end Go.Proofs.Ythinomhjhkhidaa.Sym4
