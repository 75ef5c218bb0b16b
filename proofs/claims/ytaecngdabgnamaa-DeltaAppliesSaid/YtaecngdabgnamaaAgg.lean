/- A pair of symbols by value, opened. -/
import Derived.Test.YtaecngdabgnamaaMMap
import Derived.Test.YtaecngdabgnamaaOpen
import Derived.Lib.SmallJoins
namespace Go.Proofs.Ytaecngdabgnamaa.Agg
open Go.RowKit Go.Maps Go.ChangeShapes Go.WideShapes Go.Deep Base PMap
section
variable {H : Type} {enc' : TypeId × Value → H} {w : World} {base : Nat} {spare : Nat → Bool} {held : Bool}
set_option maxRecDepth 100000 in
theorem agg_Pair {r : Reach} {b0 : Nat} {v : Value} {d : DataW H} {p : List MemPlace} (hv : Value.okWide Try.prog w r b0 23 v) (h : DataW.Trod enc' Try.prog w base spare held 23 v d p) :
    ∃ x : PK, v = vP x ∧ P64 x := by
  obtain ⟨v0, v1, y0, y1, n, rfl, _, _, h0, h1⟩ := Joins.open_agg2 Try.underlying23 (by kernel_rfl) (by kernel_rfl) hv h
  obtain ⟨k0, e0, _, w0⟩ := DataW.trod_int Try.underlying3 h0
  obtain ⟨k1, e1, _, w1⟩ := DataW.trod_int Try.underlying3 h1
  cases e0
  cases e1
  exact ⟨(k0, k1), rfl, OpenArg.wf_in w0, OpenArg.wf_in w1⟩
end
end Go.Proofs.Ytaecngdabgnamaa.Agg
