/- How the deeds of layer 15 read. -/
import Derived.Test.YthpdamkpefgmaaaKinds
import Derived.Test.YthpdamkpefgmaaaPMap
import Derived.Deep.Strs
namespace Go.Proofs.Ythpdamkpefgmaaa.Kinds
open Go.RowKit Go.ChangeShapes Go.WideShapes Go.Deep Go.Proofs.YthpdamkpefgmaaaW.PrintWords Go.Proofs.YthpdamkpefgmaaaW.PrintLast Base OpenArg
/-- a deed: its kind, its pair, its number -/
abbrev Dd := Int × ((Int × Int) × Int)
def kD : Kd Dd := Kd.pair (Kd.int .i64) (Kd.pair kII (Kd.int .i64))
theorem kD_open {w : World} {x : Dd} {cs : List Value} (h : kD.K w x cs) : cs = [.int .i64 x.1, .int .i64 x.2.1.1, .int .i64 x.2.1.2, .int .i64 x.2.2] := by
  obtain ⟨_, _, rfl, rfl, _, _, rfl, h2, rfl⟩ := h
  rw [kII_open h2]
  rfl
theorem kD_mk (w : World) (x : Dd) : kD.K w x [.int .i64 x.1, .int .i64 x.2.1.1, .int .i64 x.2.1.2, .int .i64 x.2.2] :=
  ⟨[.int .i64 x.1], [.int .i64 x.2.1.1, .int .i64 x.2.1.2, .int .i64 x.2.2], rfl, rfl, [.int .i64 x.2.1.1, .int .i64 x.2.1.2], [.int .i64 x.2.2], rfl, kII_mk w _, rfl⟩
theorem at_D {w : World} {A : Option Addr} {n : Nat} {xs : List Dd} (h : Kd.C kD w A n xs) {k : Nat} {x : Dd} (hx : xs[k]? = some x) :
    ∃ ad, A = some ad ∧ w.cell? (ad.add (k * 4)) = some (.int .i64 x.1) ∧ w.cell? ⟨(ad.add (k * 4)).block, (ad.add (k * 4)).off + 1, none⟩ = some (.int .i64 x.2.1.1) ∧ w.cell? ⟨(ad.add (k * 4)).block, (ad.add (k * 4)).off + 2, none⟩ = some (.int .i64 x.2.1.2) ∧ w.cell? ⟨(ad.add (k * 4)).block, (ad.add (k * 4)).off + 3, none⟩ = some (.int .i64 x.2.2) := by
  have hk : k < xs.length := (List.getElem?_eq_some_iff.1 hx).1
  obtain ⟨ad, e, hall⟩ := h.2.2 (by have := h.1; omega)
  obtain ⟨c, _, hK, hc⟩ := hall k x hx
  obtain rfl := kD_open hK
  exact ⟨ad, e, hc 0 _ rfl, by rw [← add_field _ _ 1 (by omega)]; exact hc 1 _ rfl, by rw [← add_field _ _ 2 (by omega)]; exact hc 2 _ rfl, by rw [← add_field _ _ 3 (by omega)]; exact hc 3 _ rfl⟩
section
variable {H : Type} {enc : TypeId × Value → H} {w : World} {base : Nat} {spare : Nat → Bool} {held : Bool}
set_option maxRecDepth 100000 in
theorem dec_Deed (n : Nat) (cs : List Value) (y : DataW H × List MemPlace) (h : DataW.trod enc Try.prog w base spare held n 43 cs = some y) : ∃ a : Dd, kD.K w a cs ∧ (In64 a.1 ∧ (In64 a.2.1.1 ∧ In64 a.2.1.2) ∧ In64 a.2.2) := by
  obtain ⟨y0, y1, y2, m, _, hl, h0, h1, h2⟩ := trod_struct3 Try.underlying43 h
  have hl4 : cs.length = 4 := hl.trans (by kernel_rfl)
  obtain ⟨k0, e0, _, w0⟩ := DataW.trod_int Try.underlying3 h0
  obtain ⟨p, hp, g0, g1⟩ := dec_Pair _ _ _ h1
  obtain ⟨k2, e2, _, w2⟩ := DataW.trod_int Try.underlying3 h2
  have c3 : Try.prog.cellsOf 3 = 1 := by kernel_rfl
  have cP : Try.prog.cellsOf 41 = 2 := by kernel_rfl
  have e1 := kII_open hp
  match cs, hl4 with
  | [c0, c1, c2, c4], _ =>
    simp [c3, cP] at e0 e1 e2
    obtain ⟨rfl, rfl⟩ := e1
    subst e0 e2
    exact ⟨(k0, (p, k2)), kD_mk w (k0, (p, k2)), wf_in w0, ⟨g0, g1⟩, wf_in w2⟩
end
end Go.Proofs.Ythpdamkpefgmaaa.Kinds
