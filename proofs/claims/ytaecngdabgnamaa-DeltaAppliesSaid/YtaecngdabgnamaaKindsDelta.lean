/- How changes and the deeds of layer 12 read. -/
import Derived.Test.YtaecngdabgnamaaKindsStep
namespace Go.Proofs.Ytaecngdabgnamaa.Kinds
open Go.RowKit Go.ChangeShapes Go.WideShapes Go.Deep Go.Proofs.YtaecngdabgnamaaW.PrintWords Go.Proofs.YtaecngdabgnamaaW.PrintLast Base OpenArg
/-- a deed: a change, how often -/
abbrev Dl := ((Int × Int) × Int) × Int
def kDeed : Kd Dl := Kd.pair kStep (Kd.int .i64)
theorem kDeed_open {w : World} {x : Dl} {cs : List Value} (h : kDeed.K w x cs) : cs = [.int .i64 x.1.1.1, .int .i64 x.1.1.2, .int .i64 x.1.2, .int .i64 x.2] := by
  obtain ⟨_, _, rfl, h1, rfl⟩ := h
  rw [kStep_open h1]
  rfl
theorem kDeed_mk (w : World) (x : Dl) : kDeed.K w x [.int .i64 x.1.1.1, .int .i64 x.1.1.2, .int .i64 x.1.2, .int .i64 x.2] :=
  ⟨[.int .i64 x.1.1.1, .int .i64 x.1.1.2, .int .i64 x.1.2], [.int .i64 x.2], rfl, kStep_mk w _, rfl⟩
theorem at_Deed {w : World} {A : Option Addr} {n : Nat} {xs : List Dl} (h : Kd.C kDeed w A n xs) {k : Nat} {x : Dl} (hx : xs[k]? = some x) :
    ∃ ad, A = some ad ∧ w.cell? (ad.add (k * 4)) = some (.int .i64 x.1.1.1) ∧ w.cell? ⟨(ad.add (k * 4)).block, (ad.add (k * 4)).off + 1, none⟩ = some (.int .i64 x.1.1.2) ∧ w.cell? ⟨(ad.add (k * 4)).block, (ad.add (k * 4)).off + 2, none⟩ = some (.int .i64 x.1.2) ∧ w.cell? ⟨(ad.add (k * 4)).block, (ad.add (k * 4)).off + 3, none⟩ = some (.int .i64 x.2) := by
  have hk : k < xs.length := (List.getElem?_eq_some_iff.1 hx).1
  obtain ⟨ad, e, hall⟩ := h.2.2 (by have := h.1; omega)
  obtain ⟨c, _, hK, hc⟩ := hall k x hx
  obtain rfl := kDeed_open hK
  exact ⟨ad, e, hc 0 _ rfl, by rw [← add_field _ _ 1 (by omega)]; exact hc 1 _ rfl, by rw [← add_field _ _ 2 (by omega)]; exact hc 2 _ rfl, by rw [← add_field _ _ 3 (by omega)]; exact hc 3 _ rfl⟩
section
variable {H : Type} {enc : TypeId × Value → H} {w : World} {base : Nat} {spare : Nat → Bool} {held : Bool}
set_option maxRecDepth 100000 in
theorem dec_Change (n : Nat) (cs : List Value) (y : DataW H × List MemPlace) (h : DataW.trod enc Try.prog w base spare held n 47 cs = some y) : ∃ a : (Int × Int) × Int, kStep.K w a cs ∧ ((In64 a.1.1 ∧ In64 a.1.2) ∧ In64 a.2) := by
  obtain ⟨y0, y1, m, _, hl, h0, h1⟩ := trod_struct2 Try.underlying47 h
  have hl3 : cs.length = 3 := hl.trans (by kernel_rfl)
  obtain ⟨p, hp, g0, g1⟩ := dec_Pair _ _ _ h0
  obtain ⟨k2, e2, _, w2⟩ := DataW.trod_int Try.underlying3 h1
  have c3 : Try.prog.cellsOf 3 = 1 := by kernel_rfl
  have cP : Try.prog.cellsOf 23 = 2 := by kernel_rfl
  have e1 := kII_open hp
  match cs, hl3 with
  | [c0, c1, c2], _ =>
    simp [c3, cP] at e1 e2
    obtain ⟨rfl, rfl⟩ := e1
    subst e2
    exact ⟨(p, k2), kStep_mk w (p, k2), ⟨g0, g1⟩, wf_in w2⟩
set_option maxRecDepth 100000 in
theorem dec_Deed (n : Nat) (cs : List Value) (y : DataW H × List MemPlace) (h : DataW.trod enc Try.prog w base spare held n 57 cs = some y) : ∃ a : Dl, kDeed.K w a cs ∧ (((In64 a.1.1.1 ∧ In64 a.1.1.2) ∧ In64 a.1.2) ∧ In64 a.2) := by
  obtain ⟨y0, y1, m, _, hl, h0, h1⟩ := trod_struct2 Try.underlying57 h
  have hl4 : cs.length = 4 := hl.trans (by kernel_rfl)
  obtain ⟨p, hp, g0⟩ := dec_Change _ _ _ h0
  obtain ⟨k2, e2, _, w2⟩ := DataW.trod_int Try.underlying3 h1
  have c3 : Try.prog.cellsOf 3 = 1 := by kernel_rfl
  have cP : Try.prog.cellsOf 47 = 3 := by kernel_rfl
  have e1 := kStep_open hp
  match cs, hl4 with
  | [c0, c1, c2, c4], _ =>
    simp [c3, cP] at e1 e2
    obtain ⟨rfl, rfl, rfl⟩ := e1
    subst e2
    exact ⟨(p, k2), kDeed_mk w (p, k2), g0, wf_in w2⟩
end
end Go.Proofs.Ytaecngdabgnamaa.Kinds
