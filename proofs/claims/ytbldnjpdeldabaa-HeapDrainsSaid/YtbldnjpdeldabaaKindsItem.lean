/- How the items of layer 14 read. -/
import Derived.Test.YtbldnjpdeldabaaKinds
namespace Go.Proofs.Ytbldnjpdeldabaa.Kinds
open Go.RowKit Go.ChangeShapes Go.WideShapes Go.Deep Go.Proofs.YtbldnjpdeldabaaW.PrintWords Go.Proofs.YtbldnjpdeldabaaW.PrintLast Base OpenArg
section
variable {H : Type} {enc : TypeId × Value → H} {w : World} {base : Nat} {spare : Nat → Bool} {held : Bool}
set_option maxRecDepth 100000 in
theorem dec_Item (n : Nat) (cs : List Value) (y : DataW H × List MemPlace) (h : DataW.trod enc Try.prog w base spare held n 66 cs = some y) : ∃ a : Int × Int, kII.K w a cs ∧ (In64 a.1 ∧ In64 a.2) := by
  obtain ⟨y0, y1, m, _, hl, h0, h1⟩ := trod_struct2 Try.underlying66 h
  have hl2 : cs.length = 2 := hl.trans (by kernel_rfl)
  obtain ⟨k0, e0, _, w0⟩ := DataW.trod_int Try.underlying3 h0
  obtain ⟨k1, e1, _, w1⟩ := DataW.trod_int Try.underlying3 h1
  have c3 : Try.prog.cellsOf 3 = 1 := by kernel_rfl
  match cs, hl2 with
  | [c0, c1], _ =>
    simp [c3] at e0 e1
    subst e0 e1
    exact ⟨(k0, k1), kII_mk w (k0, k1), wf_in w0, wf_in w1⟩
end
end Go.Proofs.Ytbldnjpdeldabaa.Kinds
