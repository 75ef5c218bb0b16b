/- A quiet region whose guard is false: what is left of the walk stands in a box, so that nothing evaluates the guarded rest (else the elaborator runs on for ever). -/
import Derived.Test.YthinomhjhkhidaaMExt
namespace Go.Proofs.Ythinomhjhkhidaa.ExtTail
open Go.RowKit Base Foot
set_option linter.unusedVariables false

/-- a goal that nothing unfolds -/
structure Boxd (p : Prop) : Prop where
  out : p
theorem wpQuiet_stepO {P : Program} {ops : Array Oper} {C : World → Prop} {Q : Act → Prop} {a : Act} {o : Oper} {rest : List Oper}
    (h : ∀ K : Act → Prop, (∀ a, Boxd (wpQuiet P ops C Q rest a) → K a) → if Region.wanted o (yielded ops a.tmps) then o.quiet P a C K else K (a.put o.dst undef)) : Boxd (wpQuiet P ops C Q (o :: rest) a) :=
  ⟨wpQuiet_step (fun K hK => h K (fun a h => hK a h.out))⟩
theorem wpQuiet_skipO {P : Program} {ops : Array Oper} {C : World → Prop} {Q : Act → Prop} {a : Act} {o : Oper} {rest : List Oper}
    (hw : Region.wanted o (yielded ops a.tmps) = false) (h : Boxd (wpQuiet P ops C Q rest (a.put o.dst undef))) : Boxd (wpQuiet P ops C Q (o :: rest) a) :=
  ⟨wpQuiet_step (fun K hK => by rw [hw]; exact hK _ h.out)⟩
theorem wpQuiet_nilO {P : Program} {ops : Array Oper} {C : World → Prop} {Q : Act → Prop} {a : Act} (h : Q a) : Boxd (wpQuiet P ops C Q [] a) := ⟨h⟩
end Go.Proofs.Ythinomhjhkhidaa.ExtTail
