/- FreqOrder, the walk from the row's words. -/
import Derived.Test.YthpdamkpefgmaaaFreqOrder
namespace Go.Proofs.Ythpdamkpefgmaaa.FreqOrderW
open Go.RowKit Go.Maps Go.ChangeShapes Go.WideShapes Go.Deep Go.Proofs.YthpdamkpefgmaaaW.PrintWords Base Foot ExtTail SMap FreqPure CAdd Freq RFreq FreqOrder
section
variable {H : Type} {enc : TypeId × Value → H} {w : World} {base : Nat} {spare : Nat → Bool} {held : Bool}
set_option maxRecDepth 100000 in
theorem dec_U16 (n : Nat) (cs : List Value) (y : DataW H × List MemPlace) (h : DataW.trod enc Try.prog w base spare held n 84 cs = some y) : ∃ a : Int, (Kd.int .u16).K w a cs ∧ (0 ≤ a ∧ a ≤ 65535) := by
  obtain ⟨a, h1, h2, h3⟩ := DataW.trod_int Try.underlying84 h
  refine ⟨a, h1, ?_⟩
  simpa [Lit.wf, IntKind.min, IntKind.max, IntKind.signed, IntKind.bits] using h3
end
theorem src16_of {w : World} {A : Option Addr} {l : List Int} (h : Kd.C (Kd.int .u16) w A l.length l) : Src16 w A l := by
  intro j s hx
  have hk : j < l.length := (List.getElem?_eq_some_iff.1 hx).1
  obtain ⟨ad, e, hall⟩ := h.2.2 (by omega)
  obtain ⟨c, _, hK, hc⟩ := hall j s hx
  have hK' : c = [.int .u16 s] := hK
  subst hK'
  refine ⟨ad, e, ?_⟩
  have := hc 0 _ rfl
  have e1 : j * (Kd.int .u16).sz + 0 = j := by show j * 1 + 0 = j; omega
  rw [e1] at this
  exact this
theorem walk (W : World) (A : Option Addr) (cp : Nat) (l : List Wd) (hr : Kd.C kWd W A l.length l) (hc : l.length ≤ cp) (hg : ∀ x ∈ l, x.1.size ≤ maxLen ∧ In64 x.2) (hsz : l.length * 24 ≤ reachBytes)
    (A2 : Option Addr) (cp2 : Nat) (bs : List Int) (hr2 : Kd.C (Kd.int .u16) W A2 bs.length bs) (hc2 : bs.length ≤ cp2) (hg2 : ∀ x ∈ bs, 0 ≤ x ∧ x ≤ 65535) (hsz2 : bs.length * 2 ≤ reachBytes) (cut : Int) (hcut : (Lit.int .u16 cut).wf = true) :
    Calls Try.prog 9 #[.slice A l.length cp, .slice A2 bs.length cp2, .int .u16 cut] W fun e w' => e = .returned (.bool true) ∧ Below W.heap.size W w' :=
  law_any A cp l A2 cp2 bs cut W (srcW_of hr) hc (by unfold reachBytes at hsz; unfold maxLen; omega) hg (src16_of hr2) hc2 (by unfold reachBytes at hsz2; unfold maxLen; omega) hg2 (by
    simpa [Lit.wf, IntKind.min, IntKind.max, IntKind.signed, IntKind.bits] using hcut)
end Go.Proofs.Ythpdamkpefgmaaa.FreqOrderW
