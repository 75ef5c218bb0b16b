/- How the steps of layer 11 read: a pair, a symbol. -/
import Derived.Test.YtaecngdabgnamaaKinds
import Derived.Test.YtaecngdabgnamaaMMap
namespace Go.Proofs.Ytaecngdabgnamaa.Kinds
open Go.RowKit Go.ChangeShapes Go.WideShapes Go.Deep Go.Proofs.YtaecngdabgnamaaW.PrintWords Go.Proofs.YtaecngdabgnamaaW.PrintLast Base OpenArg
def kStep : Kd ((Int × Int) × Int) := Kd.pair kII (Kd.int .i64)
theorem kStep_open {w : World} {x : (Int × Int) × Int} {cs : List Value} (h : kStep.K w x cs) : cs = [.int .i64 x.1.1, .int .i64 x.1.2, .int .i64 x.2] := by
  obtain ⟨_, _, rfl, h1, rfl⟩ := h
  rw [kII_open h1]
  rfl
theorem kStep_mk (w : World) (x : (Int × Int) × Int) : kStep.K w x [.int .i64 x.1.1, .int .i64 x.1.2, .int .i64 x.2] :=
  ⟨[.int .i64 x.1.1, .int .i64 x.1.2], [.int .i64 x.2], rfl, kII_mk w _, rfl⟩
theorem at_Step {w : World} {A : Option Addr} {n : Nat} {xs : List ((Int × Int) × Int)} (h : Kd.C kStep w A n xs) {k : Nat} {x : (Int × Int) × Int} (hx : xs[k]? = some x) :
    ∃ ad, A = some ad ∧ w.cell? (ad.add (k * 3)) = some (.int .i64 x.1.1) ∧ w.cell? ⟨(ad.add (k * 3)).block, (ad.add (k * 3)).off + 1, none⟩ = some (.int .i64 x.1.2) ∧ w.cell? ⟨(ad.add (k * 3)).block, (ad.add (k * 3)).off + 2, none⟩ = some (.int .i64 x.2) := by
  have hk : k < xs.length := (List.getElem?_eq_some_iff.1 hx).1
  obtain ⟨ad, e, hall⟩ := h.2.2 (by have := h.1; omega)
  obtain ⟨c, _, hK, hc⟩ := hall k x hx
  obtain rfl := kStep_open hK
  exact ⟨ad, e, hc 0 _ rfl, by rw [← add_field _ _ 1 (by omega)]; exact hc 1 _ rfl, by rw [← add_field _ _ 2 (by omega)]; exact hc 2 _ rfl⟩
section
variable {H : Type} {enc : TypeId × Value → H} {w : World} {base : Nat} {spare : Nat → Bool} {held : Bool}
set_option maxRecDepth 100000 in
theorem dec_Step (n : Nat) (cs : List Value) (y : DataW H × List MemPlace) (h : DataW.trod enc Try.prog w base spare held n 36 cs = some y) : ∃ a : (Int × Int) × Int, kStep.K w a cs ∧ ((In64 a.1.1 ∧ In64 a.1.2) ∧ In64 a.2) := by
  obtain ⟨y0, y1, m, _, hl, h0, h1⟩ := trod_struct2 Try.underlying36 h
  have hl3 : cs.length = 3 := hl.trans (by kernel_rfl)
  obtain ⟨p, hp, g0, g1⟩ := dec_Pair _ _ _ h0
  obtain ⟨k2, e2, _, w2⟩ := DataW.trod_int Try.underlying3 h1
  have c3 : Try.prog.cellsOf 3 = 1 := by kernel_rfl
  have cP : Try.prog.cellsOf 23 = 2 := by kernel_rfl
  have e1 := kII_open hp
  match cs, hl3 with
  | [c0, c1, c2], _ =>
    simp [c3, cP] at e1 e2
    obtain ⟨rfl, rfl⟩ := e1
    subst e2
    exact ⟨(p, k2), kStep_mk w (p, k2), ⟨g0, g1⟩, wf_in w2⟩
end
end Go.Proofs.Ytaecngdabgnamaa.Kinds
