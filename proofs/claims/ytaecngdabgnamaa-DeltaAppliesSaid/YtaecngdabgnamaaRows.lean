/-
  No cell of these rows narrows 'for every input' (looked for: loops, veiled, ifaces, maps, wideKeys, modest, calm, conditions, laid).
  DERIVED. THE GIVEN ROWS OF THIS SEAT. 8 by the template 'for every input the law returns true; each argument reads behind the call as it read before'; 0 by the template 'total and deterministic' (their statements: YtaecngdabgnamaaTotals.lean).
  GIVEN WITH THE SEED: the statements are not yours to turn. If you find one false, say at which input.
  Laid BY PROGRAM, IN A SANDBOX (cutbox-rows.mjs): the forced cells as the released guide's own fill.sh prints them over the translation af3b77131d044820… (all of the seat's roots in one cut). By AI agents, Wed Nov 11 2026. No macro, syntax, notation, axiom, sorry.
-/
import Derived.Test.YtaecngdabgnamaaChecked
import GoSem.Claim
import GoSem.ClaimJoined
import GoSem.ClaimMapViews
import Derived.JoinedTies
import Derived.KernelRfl
namespace Go.Proofs.Ytaecngdabgnamaa
/- THE CELL 'sum', in the pinned program and in every row, IS THE sha256 OF THE DUMP (.gsa) THAT YtaecngdabgnamaaProg.lean LOADS. Nothing in Lean hashes anything: it is a label: what it is worth is what the hold of that sum in a sandbox is worth. -/
noncomputable def Try.pinned : Pinned := { name := "ytaecngdabgnamaa", sum := "af3b77131d044820d4d30dd31c8b5599e0902298dd77ec2dc707f737792fb5e1", checked := Try.checked }
namespace Rows
def none {H : Type} : Left H := { results := [], args := [] }

/-- 'gluepotlaw11.SeqGone': WHATEVER THE INPUT: true; the input reads as it did. -/
def seqGoneSpec : ChangeSpec := { name := "seqGone", fn := fun _ => fun
  | [d1, d2] => { results := [.lit (.bool true)], args := [d1, d2] }
  | _ => none }
def seqGoneRow : OpenClaim := { program := "ytaecngdabgnamaa", sum := "af3b77131d044820d4d30dd31c8b5599e0902298dd77ec2dc707f737792fb5e1", func := "gluepot/gluepotlaw11.SeqGone", spec := "seqGone", unfollowed := true, recurses := true, plainKeys := false, apart := false }
def SeqGoneSaid : Prop := seqGoneRow.holds Try.pinned (OpenSpec.ofChange seqGoneSpec)

/-- ITS FALSE NEIGHBOUR: 'it returns false'. Refute it at one input. -/
def seqGoneWrong : ChangeSpec := { name := "seqGone", fn := fun _ => fun
  | [d1, d2] => { results := [.lit (.bool false)], args := [d1, d2] }
  | _ => none }
def SeqGoneWrongFalsely : Prop := seqGoneRow.holds Try.pinned (OpenSpec.ofChange seqGoneWrong)

/-- 'gluepotlaw11.SeqMerges': WHATEVER THE INPUT: true; the input reads as it did. -/
def seqMergesSpec : ChangeSpec := { name := "seqMerges", fn := fun _ => fun
  | [d1, d2] => { results := [.lit (.bool true)], args := [d1, d2] }
  | _ => none }
def seqMergesRow : OpenClaim := { program := "ytaecngdabgnamaa", sum := "af3b77131d044820d4d30dd31c8b5599e0902298dd77ec2dc707f737792fb5e1", func := "gluepot/gluepotlaw11.SeqMerges", spec := "seqMerges", unfollowed := true, recurses := true, plainKeys := false, apart := false }
def SeqMergesSaid : Prop := seqMergesRow.holds Try.pinned (OpenSpec.ofChange seqMergesSpec)

/-- ITS FALSE NEIGHBOUR: 'it returns false'. Refute it at one input. -/
def seqMergesWrong : ChangeSpec := { name := "seqMerges", fn := fun _ => fun
  | [d1, d2] => { results := [.lit (.bool false)], args := [d1, d2] }
  | _ => none }
def SeqMergesWrongFalsely : Prop := seqMergesRow.holds Try.pinned (OpenSpec.ofChange seqMergesWrong)

/-- 'gluepotlaw11.SeqSpells': WHATEVER THE INPUT: true; the input reads as it did. -/
def seqSpellsSpec : ChangeSpec := { name := "seqSpells", fn := fun _ => fun
  | [d1, d2] => { results := [.lit (.bool true)], args := [d1, d2] }
  | _ => none }
def seqSpellsRow : OpenClaim := { program := "ytaecngdabgnamaa", sum := "af3b77131d044820d4d30dd31c8b5599e0902298dd77ec2dc707f737792fb5e1", func := "gluepot/gluepotlaw11.SeqSpells", spec := "seqSpells", unfollowed := true, recurses := true, plainKeys := false, apart := false }
def SeqSpellsSaid : Prop := seqSpellsRow.holds Try.pinned (OpenSpec.ofChange seqSpellsSpec)

/-- ITS FALSE NEIGHBOUR: 'it returns false'. Refute it at one input. -/
def seqSpellsWrong : ChangeSpec := { name := "seqSpells", fn := fun _ => fun
  | [d1, d2] => { results := [.lit (.bool false)], args := [d1, d2] }
  | _ => none }
def SeqSpellsWrongFalsely : Prop := seqSpellsRow.holds Try.pinned (OpenSpec.ofChange seqSpellsWrong)

/-- 'gluepotlaw11.SeqCounts': WHATEVER THE INPUT: true; the input reads as it did. -/
def seqCountsSpec : ChangeSpec := { name := "seqCounts", fn := fun _ => fun
  | [d1, d2] => { results := [.lit (.bool true)], args := [d1, d2] }
  | _ => none }
def seqCountsRow : OpenClaim := { program := "ytaecngdabgnamaa", sum := "af3b77131d044820d4d30dd31c8b5599e0902298dd77ec2dc707f737792fb5e1", func := "gluepot/gluepotlaw11.SeqCounts", spec := "seqCounts", unfollowed := true, recurses := true, plainKeys := false, apart := false }
def SeqCountsSaid : Prop := seqCountsRow.holds Try.pinned (OpenSpec.ofChange seqCountsSpec)

/-- ITS FALSE NEIGHBOUR: 'it returns false'. Refute it at one input. -/
def seqCountsWrong : ChangeSpec := { name := "seqCounts", fn := fun _ => fun
  | [d1, d2] => { results := [.lit (.bool false)], args := [d1, d2] }
  | _ => none }
def SeqCountsWrongFalsely : Prop := seqCountsRow.holds Try.pinned (OpenSpec.ofChange seqCountsWrong)

/-- 'gluepotlaw12.DeltaPlays': WHATEVER THE INPUT: true; the input reads as it did. -/
def deltaPlaysSpec : ChangeSpec := { name := "deltaPlays", fn := fun _ => fun
  | [d1, d2] => { results := [.lit (.bool true)], args := [d1, d2] }
  | _ => none }
def deltaPlaysRow : OpenClaim := { program := "ytaecngdabgnamaa", sum := "af3b77131d044820d4d30dd31c8b5599e0902298dd77ec2dc707f737792fb5e1", func := "gluepot/gluepotlaw12.DeltaPlays", spec := "deltaPlays", unfollowed := true, recurses := true, plainKeys := false, apart := false }
def DeltaPlaysSaid : Prop := deltaPlaysRow.holds Try.pinned (OpenSpec.ofChange deltaPlaysSpec)

/-- ITS FALSE NEIGHBOUR: 'it returns false'. Refute it at one input. -/
def deltaPlaysWrong : ChangeSpec := { name := "deltaPlays", fn := fun _ => fun
  | [d1, d2] => { results := [.lit (.bool false)], args := [d1, d2] }
  | _ => none }
def DeltaPlaysWrongFalsely : Prop := deltaPlaysRow.holds Try.pinned (OpenSpec.ofChange deltaPlaysWrong)

/-- 'gluepotlaw12.DeltaApplies': WHATEVER THE INPUT: true; the input reads as it did. -/
def deltaAppliesSpec : ChangeSpec := { name := "deltaApplies", fn := fun _ => fun
  | [d1, d2, d3] => { results := [.lit (.bool true)], args := [d1, d2, d3] }
  | _ => none }
def deltaAppliesRow : OpenClaim := { program := "ytaecngdabgnamaa", sum := "af3b77131d044820d4d30dd31c8b5599e0902298dd77ec2dc707f737792fb5e1", func := "gluepot/gluepotlaw12.DeltaApplies", spec := "deltaApplies", unfollowed := true, recurses := true, plainKeys := false, apart := false }
def DeltaAppliesSaid : Prop := deltaAppliesRow.holds Try.pinned (OpenSpec.ofChange deltaAppliesSpec)

/-- ITS FALSE NEIGHBOUR: 'it returns false'. Refute it at one input. -/
def deltaAppliesWrong : ChangeSpec := { name := "deltaApplies", fn := fun _ => fun
  | [d1, d2, d3] => { results := [.lit (.bool false)], args := [d1, d2, d3] }
  | _ => none }
def DeltaAppliesWrongFalsely : Prop := deltaAppliesRow.holds Try.pinned (OpenSpec.ofChange deltaAppliesWrong)

/-- 'gluepotlaw12.DeltaNone': WHATEVER THE INPUT: true; the input reads as it did. -/
def deltaNoneSpec : ChangeSpec := { name := "deltaNone", fn := fun _ => fun
  | [d1, d2, d3] => { results := [.lit (.bool true)], args := [d1, d2, d3] }
  | _ => none }
def deltaNoneRow : OpenClaim := { program := "ytaecngdabgnamaa", sum := "af3b77131d044820d4d30dd31c8b5599e0902298dd77ec2dc707f737792fb5e1", func := "gluepot/gluepotlaw12.DeltaNone", spec := "deltaNone", unfollowed := true, recurses := true, plainKeys := false, apart := false }
def DeltaNoneSaid : Prop := deltaNoneRow.holds Try.pinned (OpenSpec.ofChange deltaNoneSpec)

/-- ITS FALSE NEIGHBOUR: 'it returns false'. Refute it at one input. -/
def deltaNoneWrong : ChangeSpec := { name := "deltaNone", fn := fun _ => fun
  | [d1, d2, d3] => { results := [.lit (.bool false)], args := [d1, d2, d3] }
  | _ => none }
def DeltaNoneWrongFalsely : Prop := deltaNoneRow.holds Try.pinned (OpenSpec.ofChange deltaNoneWrong)

/-- 'gluepotlaw08.TableOf': WHATEVER THE INPUT: true; the input reads as it did. -/
def tableOfSpec : ChangeSpec := { name := "tableOf", fn := fun _ => fun
  | [d1, d2] => { results := [.lit (.bool true)], args := [d1, d2] }
  | _ => none }
def tableOfRow : OpenClaim := { program := "ytaecngdabgnamaa", sum := "af3b77131d044820d4d30dd31c8b5599e0902298dd77ec2dc707f737792fb5e1", func := "gluepot/gluepotlaw08.TableOf", spec := "tableOf", unfollowed := true, recurses := true, plainKeys := false, apart := false }
def TableOfSaid : Prop := tableOfRow.holds Try.pinned (OpenSpec.ofChange tableOfSpec)

/-- ITS FALSE NEIGHBOUR: 'it returns false'. Refute it at one input. -/
def tableOfWrong : ChangeSpec := { name := "tableOf", fn := fun _ => fun
  | [d1, d2] => { results := [.lit (.bool false)], args := [d1, d2] }
  | _ => none }
def TableOfWrongFalsely : Prop := tableOfRow.holds Try.pinned (OpenSpec.ofChange tableOfWrong)

/- THE SECOND FORM. 'bulk': how many values and letters a reading holds, each counted each time it is reached (what is shared counts as often as it is met; a slice's spare places count too). A statement '..UptoSaid' is the law's where the arguments, and the package variables that the reading takes, are together of bulk at most 1048576: NARROWER than '..Said'. Prove '..Said' where nothing that the law and all that it calls make is longer than what came in: it says more and counts as full. Else prove '..UptoSaid'. A law counts once. -/
mutual
def uptoBulk {H : Type} : DataW H → Nat
  | .lit (.string bytes) => bytes.length + 1
  | .lit _ => 1
  | .nil => 1
  | .ptr d => uptoBulk d + 1
  | .slice elems spare => uptoBulkAll elems + uptoBulkAll spare + 1
  | .agg parts => uptoBulkAll parts + 1
  | .iface _ d => uptoBulk d + 1
  | .map entries => uptoBulkEntries entries + 1
  | .held _ => 1
def uptoBulkAll {H : Type} : List (DataW H) → Nat
  | [] => 0
  | d :: r => uptoBulk d + uptoBulkAll r
def uptoBulkEntries {H : Type} : List (Lit × DataW H) → Nat
  | [] => 0
  | x :: r => uptoBulkEntry x + uptoBulkEntries r
def uptoBulkEntry {H : Type} : Lit × DataW H → Nat
  | (.string bytes, d) => bytes.length + uptoBulk d + 1
  | (_, d) => uptoBulk d + 1
 end
def uptoSmall : (H : Type) → List (DataW H) → Bool := fun _ ds => decide (uptoBulkAll ds ≤ 1048576)
def OpenSpec.upto (s : _root_.Go.ChangeSpec) : _root_.Go.OpenSpec := { _root_.Go.OpenSpec.ofChange s with cond := some uptoSmall }

/-- 'gluepotlaw11.SeqGone', WHERE WHAT IT READS IS OF BULK AT MOST 1048576: true; the input reads as it did. -/
def seqGoneUptoRow : OpenClaim := { program := "ytaecngdabgnamaa", sum := "af3b77131d044820d4d30dd31c8b5599e0902298dd77ec2dc707f737792fb5e1", func := "gluepot/gluepotlaw11.SeqGone", spec := "seqGone", unfollowed := true, recurses := true, plainKeys := false, apart := false, narrowed := true }
def SeqGoneUptoSaid : Prop := seqGoneUptoRow.holds Try.pinned (OpenSpec.upto seqGoneSpec)

/-- 'gluepotlaw11.SeqMerges', WHERE WHAT IT READS IS OF BULK AT MOST 1048576: true; the input reads as it did. -/
def seqMergesUptoRow : OpenClaim := { program := "ytaecngdabgnamaa", sum := "af3b77131d044820d4d30dd31c8b5599e0902298dd77ec2dc707f737792fb5e1", func := "gluepot/gluepotlaw11.SeqMerges", spec := "seqMerges", unfollowed := true, recurses := true, plainKeys := false, apart := false, narrowed := true }
def SeqMergesUptoSaid : Prop := seqMergesUptoRow.holds Try.pinned (OpenSpec.upto seqMergesSpec)

/-- 'gluepotlaw11.SeqSpells', WHERE WHAT IT READS IS OF BULK AT MOST 1048576: true; the input reads as it did. -/
def seqSpellsUptoRow : OpenClaim := { program := "ytaecngdabgnamaa", sum := "af3b77131d044820d4d30dd31c8b5599e0902298dd77ec2dc707f737792fb5e1", func := "gluepot/gluepotlaw11.SeqSpells", spec := "seqSpells", unfollowed := true, recurses := true, plainKeys := false, apart := false, narrowed := true }
def SeqSpellsUptoSaid : Prop := seqSpellsUptoRow.holds Try.pinned (OpenSpec.upto seqSpellsSpec)

/-- 'gluepotlaw11.SeqCounts', WHERE WHAT IT READS IS OF BULK AT MOST 1048576: true; the input reads as it did. -/
def seqCountsUptoRow : OpenClaim := { program := "ytaecngdabgnamaa", sum := "af3b77131d044820d4d30dd31c8b5599e0902298dd77ec2dc707f737792fb5e1", func := "gluepot/gluepotlaw11.SeqCounts", spec := "seqCounts", unfollowed := true, recurses := true, plainKeys := false, apart := false, narrowed := true }
def SeqCountsUptoSaid : Prop := seqCountsUptoRow.holds Try.pinned (OpenSpec.upto seqCountsSpec)

/-- 'gluepotlaw12.DeltaPlays', WHERE WHAT IT READS IS OF BULK AT MOST 1048576: true; the input reads as it did. -/
def deltaPlaysUptoRow : OpenClaim := { program := "ytaecngdabgnamaa", sum := "af3b77131d044820d4d30dd31c8b5599e0902298dd77ec2dc707f737792fb5e1", func := "gluepot/gluepotlaw12.DeltaPlays", spec := "deltaPlays", unfollowed := true, recurses := true, plainKeys := false, apart := false, narrowed := true }
def DeltaPlaysUptoSaid : Prop := deltaPlaysUptoRow.holds Try.pinned (OpenSpec.upto deltaPlaysSpec)

/-- 'gluepotlaw12.DeltaApplies', WHERE WHAT IT READS IS OF BULK AT MOST 1048576: true; the input reads as it did. -/
def deltaAppliesUptoRow : OpenClaim := { program := "ytaecngdabgnamaa", sum := "af3b77131d044820d4d30dd31c8b5599e0902298dd77ec2dc707f737792fb5e1", func := "gluepot/gluepotlaw12.DeltaApplies", spec := "deltaApplies", unfollowed := true, recurses := true, plainKeys := false, apart := false, narrowed := true }
def DeltaAppliesUptoSaid : Prop := deltaAppliesUptoRow.holds Try.pinned (OpenSpec.upto deltaAppliesSpec)

/-- 'gluepotlaw12.DeltaNone', WHERE WHAT IT READS IS OF BULK AT MOST 1048576: true; the input reads as it did. -/
def deltaNoneUptoRow : OpenClaim := { program := "ytaecngdabgnamaa", sum := "af3b77131d044820d4d30dd31c8b5599e0902298dd77ec2dc707f737792fb5e1", func := "gluepot/gluepotlaw12.DeltaNone", spec := "deltaNone", unfollowed := true, recurses := true, plainKeys := false, apart := false, narrowed := true }
def DeltaNoneUptoSaid : Prop := deltaNoneUptoRow.holds Try.pinned (OpenSpec.upto deltaNoneSpec)

/-- 'gluepotlaw08.TableOf', WHERE WHAT IT READS IS OF BULK AT MOST 1048576: true; the input reads as it did. -/
def tableOfUptoRow : OpenClaim := { program := "ytaecngdabgnamaa", sum := "af3b77131d044820d4d30dd31c8b5599e0902298dd77ec2dc707f737792fb5e1", func := "gluepot/gluepotlaw08.TableOf", spec := "tableOf", unfollowed := true, recurses := true, plainKeys := false, apart := false, narrowed := true }
def TableOfUptoSaid : Prop := tableOfUptoRow.holds Try.pinned (OpenSpec.upto tableOfSpec)

end Rows
end Go.Proofs.Ytaecngdabgnamaa
