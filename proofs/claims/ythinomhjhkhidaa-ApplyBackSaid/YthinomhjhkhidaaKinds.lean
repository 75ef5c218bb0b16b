/- How the elements of the arguments' slices read: kinds over the print's words, with decoders for the rows. -/
import Derived.Test.YthinomhjhkhidaaWMore
import Derived.Test.YthinomhjhkhidaaBase
import Derived.Test.YthinomhjhkhidaaOpen
namespace Go.Proofs.Ythinomhjhkhidaa.Kinds
open Go.RowKit Go.ChangeShapes Go.WideShapes Go.Deep Go.Proofs.YthinomhjhkhidaaW.PrintWords Go.Proofs.YthinomhjhkhidaaW.PrintLast Base OpenArg

/-- two whole numbers -/
def kII : Kd (Int × Int) := Kd.pair (Kd.int .i64) (Kd.int .i64)
theorem kII_open {w : World} {x : Int × Int} {cs : List Value} (h : kII.K w x cs) : cs = [.int .i64 x.1, .int .i64 x.2] := by
  obtain ⟨_, _, rfl, rfl, rfl⟩ := h
  rfl
theorem kII_mk (w : World) (x : Int × Int) : kII.K w x [.int .i64 x.1, .int .i64 x.2] := ⟨[.int .i64 x.1], [.int .i64 x.2], rfl, rfl, rfl⟩
/-- two texts -/
def kSS : Kd (ByteArray × ByteArray) := Kd.pair Kd.string Kd.string
theorem kSS_open {w : World} {x : ByteArray × ByteArray} {cs : List Value} (h : kSS.K w x cs) : cs = [.string x.1, .string x.2] := by
  obtain ⟨_, _, rfl, rfl, rfl⟩ := h
  rfl
theorem kSS_mk (w : World) (x : ByteArray × ByteArray) : kSS.K w x [.string x.1, .string x.2] := ⟨[.string x.1], [.string x.2], rfl, rfl, rfl⟩

theorem at_II {w : World} {A : Option Addr} {n : Nat} {xs : List (Int × Int)} (h : Kd.C kII w A n xs) {k : Nat} {x : Int × Int} (hx : xs[k]? = some x) :
    ∃ ad, A = some ad ∧ w.cell? (ad.add (k * 2)) = some (.int .i64 x.1) ∧ w.cell? ⟨(ad.add (k * 2)).block, (ad.add (k * 2)).off + 1, none⟩ = some (.int .i64 x.2) := by
  have hk : k < xs.length := (List.getElem?_eq_some_iff.1 hx).1
  obtain ⟨ad, e, hall⟩ := h.2.2 (by have := h.1; omega)
  obtain ⟨c, _, hK, hc⟩ := hall k x hx
  obtain rfl := kII_open hK
  exact ⟨ad, e, hc 0 _ rfl, by rw [← add_field _ _ 1 (by omega)]; exact hc 1 _ rfl⟩
theorem at_SS {w : World} {A : Option Addr} {n : Nat} {xs : List (ByteArray × ByteArray)} (h : Kd.C kSS w A n xs) {k : Nat} {x : ByteArray × ByteArray} (hx : xs[k]? = some x) :
    ∃ ad, A = some ad ∧ w.cell? (ad.add (k * 2)) = some (.string x.1) ∧ w.cell? ⟨(ad.add (k * 2)).block, (ad.add (k * 2)).off + 1, none⟩ = some (.string x.2) := by
  have hk : k < xs.length := (List.getElem?_eq_some_iff.1 hx).1
  obtain ⟨ad, e, hall⟩ := h.2.2 (by have := h.1; omega)
  obtain ⟨c, _, hK, hc⟩ := hall k x hx
  obtain rfl := kSS_open hK
  exact ⟨ad, e, hc 0 _ rfl, by rw [← add_field _ _ 1 (by omega)]; exact hc 1 _ rfl⟩

section
variable {H : Type} {enc : TypeId × Value → H} {w : World} {base : Nat} {spare : Nat → Bool} {held : Bool}
set_option maxRecDepth 100000 in
theorem dec_Pair (n : Nat) (cs : List Value) (y : DataW H × List MemPlace) (h : DataW.trod enc Try.prog w base spare held n 94 cs = some y) : ∃ a : Int × Int, kII.K w a cs ∧ (In64 a.1 ∧ In64 a.2) := by
  obtain ⟨y0, y1, m, _, hl, h0, h1⟩ := trod_struct2 Try.underlying94 h
  have hl2 : cs.length = 2 := hl.trans (by kernel_rfl)
  obtain ⟨k0, e0, _, w0⟩ := DataW.trod_int Try.underlying3 h0
  obtain ⟨k1, e1, _, w1⟩ := DataW.trod_int Try.underlying3 h1
  have c3 : Try.prog.cellsOf 3 = 1 := by kernel_rfl
  match cs, hl2 with
  | [c0, c1], _ =>
    simp [c3] at e0 e1
    subst e0 e1
    exact ⟨(k0, k1), kII_mk w (k0, k1), wf_in w0, wf_in w1⟩
end
end Go.Proofs.Ythinomhjhkhidaa.Kinds
