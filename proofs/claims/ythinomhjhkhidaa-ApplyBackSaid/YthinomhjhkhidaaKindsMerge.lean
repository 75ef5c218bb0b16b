/- How merges read. -/
import Derived.Test.YthinomhjhkhidaaKinds
namespace Go.Proofs.Ythinomhjhkhidaa.Kinds
open Go.RowKit Go.ChangeShapes Go.WideShapes Go.Deep Go.Proofs.YthinomhjhkhidaaW.PrintWords Go.Proofs.YthinomhjhkhidaaW.PrintLast Base OpenArg
section
variable {H : Type} {enc : TypeId × Value → H} {w : World} {base : Nat} {spare : Nat → Bool} {held : Bool}
set_option maxRecDepth 100000 in
theorem dec_Merge (n : Nat) (cs : List Value) (y : DataW H × List MemPlace) (h : DataW.trod enc Try.prog w base spare held n 70 cs = some y) : ∃ a : ByteArray × ByteArray, kSS.K w a cs ∧ True := by
  obtain ⟨y0, y1, m, _, hl, h0, h1⟩ := trod_struct2 Try.underlying70 h
  have hl2 : cs.length = 2 := hl.trans (by kernel_rfl)
  obtain ⟨k0, e0, _, _⟩ := DataW.trod_string Try.underlying9 h0
  obtain ⟨k1, e1, _, _⟩ := DataW.trod_string Try.underlying9 h1
  have c3 : Try.prog.cellsOf 9 = 1 := by kernel_rfl
  match cs, hl2 with
  | [c0, c1], _ =>
    simp [c3] at e0 e1
    subst e0 e1
    exact ⟨(k0, k1), kSS_mk w (k0, k1), trivial⟩
end
end Go.Proofs.Ythinomhjhkhidaa.Kinds
