/- Merges that came in, as an array and as a row. -/
import Derived.Test.YthinomhjhkhidaaKinds
import Derived.Test.YthinomhjhkhidaaSrc
import Derived.Test.YthinomhjhkhidaaFilePure
import Derived.Test.YthinomhjhkhidaaRefSymPure
import Derived.Deep.DrawnRows
namespace Go.Proofs.Ythinomhjhkhidaa.FileLaw
open Go.RowKit Go.ChangeShapes Go.WideShapes Go.Deep Go.Proofs.YthinomhjhkhidaaW.PrintWords Go.Proofs.YthinomhjhkhidaaW.PrintLast Go.Proofs.YthinomhjhkhidaaW.PrintMore Base Foot Src Kinds SymPure FilePure
set_option linter.unusedVariables false
set_option linter.unusedSimpArgs false
attribute [local go_sem ↓] Go.wp_at_zero Go.wp_at_succ

theorem C_of_src {w : World} {A : Option Addr} {l : List Mg} (h : Src w 2 A l.length (l.flatMap encSS)) (hl : l.length ≤ maxLen) : Kd.C kSS w A l.length l := by
  refine ⟨rfl, hl, fun h0 => ?_⟩
  obtain ⟨ad, e, hc⟩ := h.2 h0
  refine ⟨ad, e, fun j p hp => ⟨[.string p.1, .string p.2], rfl, kSS_mk w p, fun i u hu => hc _ u ?_⟩⟩
  have hi : i < 2 := (List.getElem?_eq_some_iff.1 hu).1
  have := flat_get encSS 2 encSS_len l j i hi
  rw [hp] at this
  exact this.trans hu
theorem src_of_C {w : World} {A : Option Addr} {l : List Mg} (h : Kd.C kSS w A l.length l) : Src w 2 A l.length (l.flatMap encSS) := by
  refine ⟨flat_len encSS 2 encSS_len l, fun h0 => ?_⟩
  obtain ⟨ad, e, hall⟩ := h.2.2 h0
  refine ⟨ad, e, fun j u hu => ?_⟩
  have hj : j = j / 2 * 2 + j % 2 := by omega
  rw [hj, flat_get encSS 2 encSS_len l (j / 2) (j % 2) (by omega)] at hu
  cases hx : l[j / 2]? with
  | none => rw [hx] at hu; cases hu
  | some p =>
    rw [hx] at hu
    obtain ⟨c, _, hK, hc⟩ := hall _ p hx
    obtain rfl := kSS_open hK
    rw [hj]
    exact hc _ u hu
end Go.Proofs.Ythinomhjhkhidaa.FileLaw
