/-
  No cell of these rows narrows 'for every input' (looked for: loops, veiled, ifaces, maps, wideKeys, modest, calm, conditions, laid).
  DERIVED. THE GIVEN ROWS OF THIS SEAT. 5 by the template 'for every input the law returns true; each argument reads behind the call as it read before'; 0 by the template 'total and deterministic' (their statements: YthinomhjhkhidaaTotals.lean).
  GIVEN WITH THE SEED: the statements are not yours to turn. If you find one false, say at which input.
  Laid BY PROGRAM, IN A SANDBOX (cutbox-rows.mjs): the forced cells as the released guide's own fill.sh prints them over the translation 0d620845b0fc3fe4… (all of the seat's roots in one cut). By AI agents, Wed Nov 11 2026. No macro, syntax, notation, axiom, sorry.
-/
import Derived.Test.YthinomhjhkhidaaChecked
import GoSem.Claim
import GoSem.ClaimJoined
import GoSem.ClaimMapViews
import Derived.JoinedTies
import Derived.KernelRfl
namespace Go.Proofs.Ythinomhjhkhidaa
/- THE CELL 'sum', in the pinned program and in every row, IS THE sha256 OF THE DUMP (.gsa) THAT YthinomhjhkhidaaProg.lean LOADS. Nothing in Lean hashes anything: it is a label: what it is worth is what the hold of that sum in a sandbox is worth. -/
noncomputable def Try.pinned : Pinned := { name := "ythinomhjhkhidaa", sum := "0d620845b0fc3fe43be046afe87c765be85bb1f7ed2146e3641101c65aa357bc", checked := Try.checked }
namespace Rows
def none {H : Type} : Left H := { results := [], args := [] }

/-- 'gluepotlaw21.VocabTells': WHATEVER THE INPUT: true; the input reads as it did. -/
def vocabTellsSpec : ChangeSpec := { name := "vocabTells", fn := fun _ => fun
  | [d1, d2, d3] => { results := [.lit (.bool true)], args := [d1, d2, d3] }
  | _ => none }
def vocabTellsRow : OpenClaim := { program := "ythinomhjhkhidaa", sum := "0d620845b0fc3fe43be046afe87c765be85bb1f7ed2146e3641101c65aa357bc", func := "gluepot/gluepotlaw21.VocabTells", spec := "vocabTells", unfollowed := true, recurses := true, plainKeys := false, apart := false }
def VocabTellsSaid : Prop := vocabTellsRow.holds Try.pinned (OpenSpec.ofChange vocabTellsSpec)

/-- ITS FALSE NEIGHBOUR: 'it returns false'. Refute it at one input. -/
def vocabTellsWrong : ChangeSpec := { name := "vocabTells", fn := fun _ => fun
  | [d1, d2, d3] => { results := [.lit (.bool false)], args := [d1, d2, d3] }
  | _ => none }
def VocabTellsWrongFalsely : Prop := vocabTellsRow.holds Try.pinned (OpenSpec.ofChange vocabTellsWrong)

/-- 'gluepotlaw21.VocabWhole': WHATEVER THE INPUT: true; the input reads as it did. -/
def vocabWholeSpec : ChangeSpec := { name := "vocabWhole", fn := fun _ => fun
  | [d1, d2, d3] => { results := [.lit (.bool true)], args := [d1, d2, d3] }
  | _ => none }
def vocabWholeRow : OpenClaim := { program := "ythinomhjhkhidaa", sum := "0d620845b0fc3fe43be046afe87c765be85bb1f7ed2146e3641101c65aa357bc", func := "gluepot/gluepotlaw21.VocabWhole", spec := "vocabWhole", unfollowed := true, recurses := true, plainKeys := false, apart := false }
def VocabWholeSaid : Prop := vocabWholeRow.holds Try.pinned (OpenSpec.ofChange vocabWholeSpec)

/-- ITS FALSE NEIGHBOUR: 'it returns false'. Refute it at one input. -/
def vocabWholeWrong : ChangeSpec := { name := "vocabWhole", fn := fun _ => fun
  | [d1, d2, d3] => { results := [.lit (.bool false)], args := [d1, d2, d3] }
  | _ => none }
def VocabWholeWrongFalsely : Prop := vocabWholeRow.holds Try.pinned (OpenSpec.ofChange vocabWholeWrong)

/-- 'gluepotlaw20.ApplyLearnt': WHATEVER THE INPUT: true; the input reads as it did. -/
def applyLearntSpec : ChangeSpec := { name := "applyLearnt", fn := fun _ => fun
  | [d1, d2, d3] => { results := [.lit (.bool true)], args := [d1, d2, d3] }
  | _ => none }
def applyLearntRow : OpenClaim := { program := "ythinomhjhkhidaa", sum := "0d620845b0fc3fe43be046afe87c765be85bb1f7ed2146e3641101c65aa357bc", func := "gluepot/gluepotlaw20.ApplyLearnt", spec := "applyLearnt", unfollowed := true, recurses := true, plainKeys := false, apart := false }
def ApplyLearntSaid : Prop := applyLearntRow.holds Try.pinned (OpenSpec.ofChange applyLearntSpec)

/-- ITS FALSE NEIGHBOUR: 'it returns false'. Refute it at one input. -/
def applyLearntWrong : ChangeSpec := { name := "applyLearnt", fn := fun _ => fun
  | [d1, d2, d3] => { results := [.lit (.bool false)], args := [d1, d2, d3] }
  | _ => none }
def ApplyLearntWrongFalsely : Prop := applyLearntRow.holds Try.pinned (OpenSpec.ofChange applyLearntWrong)

/-- 'gluepotlaw20.ApplyCodes': WHATEVER THE INPUT: true; the input reads as it did. -/
def applyCodesSpec : ChangeSpec := { name := "applyCodes", fn := fun _ => fun
  | [d1, d2, d3, d4] => { results := [.lit (.bool true)], args := [d1, d2, d3, d4] }
  | _ => none }
def applyCodesRow : OpenClaim := { program := "ythinomhjhkhidaa", sum := "0d620845b0fc3fe43be046afe87c765be85bb1f7ed2146e3641101c65aa357bc", func := "gluepot/gluepotlaw20.ApplyCodes", spec := "applyCodes", inPlace := ["internal/abi.NoEscape"], unfollowed := true, recurses := true, plainKeys := false, apart := false }
def ApplyCodesSaid : Prop := applyCodesRow.holds Try.pinned (OpenSpec.ofChange applyCodesSpec)

/-- ITS FALSE NEIGHBOUR: 'it returns false'. Refute it at one input. -/
def applyCodesWrong : ChangeSpec := { name := "applyCodes", fn := fun _ => fun
  | [d1, d2, d3, d4] => { results := [.lit (.bool false)], args := [d1, d2, d3, d4] }
  | _ => none }
def ApplyCodesWrongFalsely : Prop := applyCodesRow.holds Try.pinned (OpenSpec.ofChange applyCodesWrong)

/-- 'gluepotlaw20.ApplyBack': WHATEVER THE INPUT: true; the input reads as it did. -/
def applyBackSpec : ChangeSpec := { name := "applyBack", fn := fun _ => fun
  | [d1, d2] => { results := [.lit (.bool true)], args := [d1, d2] }
  | _ => none }
def applyBackRow : OpenClaim := { program := "ythinomhjhkhidaa", sum := "0d620845b0fc3fe43be046afe87c765be85bb1f7ed2146e3641101c65aa357bc", func := "gluepot/gluepotlaw20.ApplyBack", spec := "applyBack", inPlace := ["internal/abi.NoEscape"], unfollowed := true, recurses := true, plainKeys := false, apart := false }
def ApplyBackSaid : Prop := applyBackRow.holds Try.pinned (OpenSpec.ofChange applyBackSpec)

/-- ITS FALSE NEIGHBOUR: 'it returns false'. Refute it at one input. -/
def applyBackWrong : ChangeSpec := { name := "applyBack", fn := fun _ => fun
  | [d1, d2] => { results := [.lit (.bool false)], args := [d1, d2] }
  | _ => none }
def ApplyBackWrongFalsely : Prop := applyBackRow.holds Try.pinned (OpenSpec.ofChange applyBackWrong)

/- THE SECOND FORM. 'bulk': how many values and letters a reading holds, each counted each time it is reached (what is shared counts as often as it is met; a slice's spare places count too). A statement '..UptoSaid' is the law's where the arguments, and the package variables that the reading takes, are together of bulk at most 1048576: NARROWER than '..Said'. Prove '..Said' where nothing that the law and all that it calls make is longer than what came in: it says more and counts as full. Else prove '..UptoSaid'. A law counts once. -/
mutual
def uptoBulk {H : Type} : DataW H → Nat
  | .lit (.string bytes) => bytes.length + 1
  | .lit _ => 1
  | .nil => 1
  | .ptr d => uptoBulk d + 1
  | .slice elems spare => uptoBulkAll elems + uptoBulkAll spare + 1
  | .agg parts => uptoBulkAll parts + 1
  | .iface _ d => uptoBulk d + 1
  | .map entries => uptoBulkEntries entries + 1
  | .held _ => 1
def uptoBulkAll {H : Type} : List (DataW H) → Nat
  | [] => 0
  | d :: r => uptoBulk d + uptoBulkAll r
def uptoBulkEntries {H : Type} : List (Lit × DataW H) → Nat
  | [] => 0
  | x :: r => uptoBulkEntry x + uptoBulkEntries r
def uptoBulkEntry {H : Type} : Lit × DataW H → Nat
  | (.string bytes, d) => bytes.length + uptoBulk d + 1
  | (_, d) => uptoBulk d + 1
 end
def uptoSmall : (H : Type) → List (DataW H) → Bool := fun _ ds => decide (uptoBulkAll ds ≤ 1048576)
def OpenSpec.upto (s : _root_.Go.ChangeSpec) : _root_.Go.OpenSpec := { _root_.Go.OpenSpec.ofChange s with cond := some uptoSmall }

/-- 'gluepotlaw21.VocabTells', WHERE WHAT IT READS IS OF BULK AT MOST 1048576: true; the input reads as it did. -/
def vocabTellsUptoRow : OpenClaim := { program := "ythinomhjhkhidaa", sum := "0d620845b0fc3fe43be046afe87c765be85bb1f7ed2146e3641101c65aa357bc", func := "gluepot/gluepotlaw21.VocabTells", spec := "vocabTells", unfollowed := true, recurses := true, plainKeys := false, apart := false, narrowed := true }
def VocabTellsUptoSaid : Prop := vocabTellsUptoRow.holds Try.pinned (OpenSpec.upto vocabTellsSpec)

/-- 'gluepotlaw21.VocabWhole', WHERE WHAT IT READS IS OF BULK AT MOST 1048576: true; the input reads as it did. -/
def vocabWholeUptoRow : OpenClaim := { program := "ythinomhjhkhidaa", sum := "0d620845b0fc3fe43be046afe87c765be85bb1f7ed2146e3641101c65aa357bc", func := "gluepot/gluepotlaw21.VocabWhole", spec := "vocabWhole", unfollowed := true, recurses := true, plainKeys := false, apart := false, narrowed := true }
def VocabWholeUptoSaid : Prop := vocabWholeUptoRow.holds Try.pinned (OpenSpec.upto vocabWholeSpec)

/-- 'gluepotlaw20.ApplyLearnt', WHERE WHAT IT READS IS OF BULK AT MOST 1048576: true; the input reads as it did. -/
def applyLearntUptoRow : OpenClaim := { program := "ythinomhjhkhidaa", sum := "0d620845b0fc3fe43be046afe87c765be85bb1f7ed2146e3641101c65aa357bc", func := "gluepot/gluepotlaw20.ApplyLearnt", spec := "applyLearnt", unfollowed := true, recurses := true, plainKeys := false, apart := false, narrowed := true }
def ApplyLearntUptoSaid : Prop := applyLearntUptoRow.holds Try.pinned (OpenSpec.upto applyLearntSpec)

/-- 'gluepotlaw20.ApplyCodes', WHERE WHAT IT READS IS OF BULK AT MOST 1048576: true; the input reads as it did. -/
def applyCodesUptoRow : OpenClaim := { program := "ythinomhjhkhidaa", sum := "0d620845b0fc3fe43be046afe87c765be85bb1f7ed2146e3641101c65aa357bc", func := "gluepot/gluepotlaw20.ApplyCodes", spec := "applyCodes", inPlace := ["internal/abi.NoEscape"], unfollowed := true, recurses := true, plainKeys := false, apart := false, narrowed := true }
def ApplyCodesUptoSaid : Prop := applyCodesUptoRow.holds Try.pinned (OpenSpec.upto applyCodesSpec)

/-- 'gluepotlaw20.ApplyBack', WHERE WHAT IT READS IS OF BULK AT MOST 1048576: true; the input reads as it did. -/
def applyBackUptoRow : OpenClaim := { program := "ythinomhjhkhidaa", sum := "0d620845b0fc3fe43be046afe87c765be85bb1f7ed2146e3641101c65aa357bc", func := "gluepot/gluepotlaw20.ApplyBack", spec := "applyBack", inPlace := ["internal/abi.NoEscape"], unfollowed := true, recurses := true, plainKeys := false, apart := false, narrowed := true }
def ApplyBackUptoSaid : Prop := applyBackUptoRow.holds Try.pinned (OpenSpec.upto applyBackSpec)

end Rows
end Go.Proofs.Ythinomhjhkhidaa
