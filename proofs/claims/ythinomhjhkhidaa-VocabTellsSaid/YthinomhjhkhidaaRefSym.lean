/- Layer 9: the reference's table, walked: it answers as the table of joined symbols does. -/
import Derived.Test.YthinomhjhkhidaaRefSymPure
import Derived.Test.YthinomhjhkhidaaSym3
import Derived.Deep.RegionHeld3
import Derived.Deep.RegionLaw
import Derived.Deep.AppendLies
import Derived.Deep.DrawnRows
namespace Go.Proofs.Ythinomhjhkhidaa.RefSym
open Go.RowKit Base Foot SymPure Sym Sym3
set_option linter.unusedVariables false
attribute [local go_sem ↓] Go.wp_at_zero Go.wp_at_succ

def RFoot (b : Nat) (tv pv : Value) (k : Nat) : Prop := k = b ∨ tv.ownBlock = some k ∨ pv.ownBlock = some k
end Go.Proofs.Ythinomhjhkhidaa.RefSym
