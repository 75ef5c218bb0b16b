/-
  No cell of these rows narrows 'for every input' (looked for: loops, veiled, ifaces, maps, wideKeys, modest, calm, conditions, laid).
  DERIVED. THE GIVEN ROWS OF THIS SEAT. 12 by the template 'for every input the law returns true; each argument reads behind the call as it read before'; 0 by the template 'total and deterministic' (their statements: YtbldnjpdeldabaaTotals.lean).
  GIVEN WITH THE SEED: the statements are not yours to turn. If you find one false, say at which input.
  Laid BY PROGRAM, IN A SANDBOX (cutbox-rows.mjs): the forced cells as the released guide's own fill.sh prints them over the translation c6fd99ec5a506c30… (all of the seat's roots in one cut). By AI agents, Wed Nov 11 2026. No macro, syntax, notation, axiom, sorry.
-/
import Derived.Test.YtbldnjpdeldabaaChecked
import GoSem.Claim
import GoSem.ClaimJoined
import GoSem.ClaimMapViews
import Derived.JoinedTies
import Derived.KernelRfl
namespace Go.Proofs.Ytbldnjpdeldabaa
/- THE CELL 'sum', in the pinned program and in every row, IS THE sha256 OF THE DUMP (.gsa) THAT YtbldnjpdeldabaaProg.lean LOADS. Nothing in Lean hashes anything: it is a label: what it is worth is what the hold of that sum in a sandbox is worth. -/
noncomputable def Try.pinned : Pinned := { name := "ytbldnjpdeldabaa", sum := "c6fd99ec5a506c302970fd9ae7ff3876ddb0b2d54bf67c32b9aa8a21fc7165a6", checked := Try.checked }
namespace Rows
def none {H : Type} : Left H := { results := [], args := [] }

/-- 'gluepotlaw09.SymUnique': WHATEVER THE INPUT: true; the input reads as it did. -/
def symUniqueSpec : ChangeSpec := { name := "symUnique", fn := fun _ => fun
  | [d1, d2, d3] => { results := [.lit (.bool true)], args := [d1, d2, d3] }
  | _ => none }
def symUniqueRow : OpenClaim := { program := "ytbldnjpdeldabaa", sum := "c6fd99ec5a506c302970fd9ae7ff3876ddb0b2d54bf67c32b9aa8a21fc7165a6", func := "gluepot/gluepotlaw09.SymUnique", spec := "symUnique", plainKeys := false, apart := false }
def SymUniqueSaid : Prop := symUniqueRow.holds Try.pinned (OpenSpec.ofChange symUniqueSpec)

/-- ITS FALSE NEIGHBOUR: 'it returns false'. Refute it at one input. -/
def symUniqueWrong : ChangeSpec := { name := "symUnique", fn := fun _ => fun
  | [d1, d2, d3] => { results := [.lit (.bool false)], args := [d1, d2, d3] }
  | _ => none }
def SymUniqueWrongFalsely : Prop := symUniqueRow.holds Try.pinned (OpenSpec.ofChange symUniqueWrong)

/-- 'gluepotlaw09.SymPlays': WHATEVER THE INPUT: true; the input reads as it did. -/
def symPlaysSpec : ChangeSpec := { name := "symPlays", fn := fun _ => fun
  | [d1, d2, d3] => { results := [.lit (.bool true)], args := [d1, d2, d3] }
  | _ => none }
def symPlaysRow : OpenClaim := { program := "ytbldnjpdeldabaa", sum := "c6fd99ec5a506c302970fd9ae7ff3876ddb0b2d54bf67c32b9aa8a21fc7165a6", func := "gluepot/gluepotlaw09.SymPlays", spec := "symPlays", plainKeys := false, apart := false }
def SymPlaysSaid : Prop := symPlaysRow.holds Try.pinned (OpenSpec.ofChange symPlaysSpec)

/-- ITS FALSE NEIGHBOUR: 'it returns false'. Refute it at one input. -/
def symPlaysWrong : ChangeSpec := { name := "symPlays", fn := fun _ => fun
  | [d1, d2, d3] => { results := [.lit (.bool false)], args := [d1, d2, d3] }
  | _ => none }
def SymPlaysWrongFalsely : Prop := symPlaysRow.holds Try.pinned (OpenSpec.ofChange symPlaysWrong)

/-- 'gluepotlaw09.SymNone': WHATEVER THE INPUT: true; the input reads as it did. -/
def symNoneSpec : ChangeSpec := { name := "symNone", fn := fun _ => fun
  | [d1, d2] => { results := [.lit (.bool true)], args := [d1, d2] }
  | _ => none }
def symNoneRow : OpenClaim := { program := "ytbldnjpdeldabaa", sum := "c6fd99ec5a506c302970fd9ae7ff3876ddb0b2d54bf67c32b9aa8a21fc7165a6", func := "gluepot/gluepotlaw09.SymNone", spec := "symNone", plainKeys := false, apart := false }
def SymNoneSaid : Prop := symNoneRow.holds Try.pinned (OpenSpec.ofChange symNoneSpec)

/-- ITS FALSE NEIGHBOUR: 'it returns false'. Refute it at one input. -/
def symNoneWrong : ChangeSpec := { name := "symNone", fn := fun _ => fun
  | [d1, d2] => { results := [.lit (.bool false)], args := [d1, d2] }
  | _ => none }
def SymNoneWrongFalsely : Prop := symNoneRow.holds Try.pinned (OpenSpec.ofChange symNoneWrong)

/-- 'gluepotlaw14.HeapDrains': WHATEVER THE INPUT: true; the input reads as it did. -/
def heapDrainsSpec : ChangeSpec := { name := "heapDrains", fn := fun _ => fun
  | [d1, d2] => { results := [.lit (.bool true)], args := [d1, d2] }
  | _ => none }
def heapDrainsRow : OpenClaim := { program := "ytbldnjpdeldabaa", sum := "c6fd99ec5a506c302970fd9ae7ff3876ddb0b2d54bf67c32b9aa8a21fc7165a6", func := "gluepot/gluepotlaw14.HeapDrains", spec := "heapDrains", unfollowed := true, recurses := true, plainKeys := false, apart := false }
def HeapDrainsSaid : Prop := heapDrainsRow.holds Try.pinned (OpenSpec.ofChange heapDrainsSpec)

/-- ITS FALSE NEIGHBOUR: 'it returns false'. Refute it at one input. -/
def heapDrainsWrong : ChangeSpec := { name := "heapDrains", fn := fun _ => fun
  | [d1, d2] => { results := [.lit (.bool false)], args := [d1, d2] }
  | _ => none }
def HeapDrainsWrongFalsely : Prop := heapDrainsRow.holds Try.pinned (OpenSpec.ofChange heapDrainsWrong)

/-- 'gluepotlaw08.TableTells': WHATEVER THE INPUT: true; the input reads as it did. -/
def tableTellsSpec : ChangeSpec := { name := "tableTells", fn := fun _ => fun
  | [d] => { results := [.lit (.bool true)], args := [d] }
  | _ => none }
def tableTellsRow : OpenClaim := { program := "ytbldnjpdeldabaa", sum := "c6fd99ec5a506c302970fd9ae7ff3876ddb0b2d54bf67c32b9aa8a21fc7165a6", func := "gluepot/gluepotlaw08.TableTells", spec := "tableTells", plainKeys := false, apart := false }
def TableTellsSaid : Prop := tableTellsRow.holds Try.pinned (OpenSpec.ofChange tableTellsSpec)

/-- ITS FALSE NEIGHBOUR: 'it returns false'. Refute it at one input. -/
def tableTellsWrong : ChangeSpec := { name := "tableTells", fn := fun _ => fun
  | [d] => { results := [.lit (.bool false)], args := [d] }
  | _ => none }
def TableTellsWrongFalsely : Prop := tableTellsRow.holds Try.pinned (OpenSpec.ofChange tableTellsWrong)

/-- 'gluepotlaw08.TableLong': WHATEVER THE INPUT: true; the input reads as it did. -/
def tableLongSpec : ChangeSpec := { name := "tableLong", fn := fun _ => fun
  | [d1, d2] => { results := [.lit (.bool true)], args := [d1, d2] }
  | _ => none }
def tableLongRow : OpenClaim := { program := "ytbldnjpdeldabaa", sum := "c6fd99ec5a506c302970fd9ae7ff3876ddb0b2d54bf67c32b9aa8a21fc7165a6", func := "gluepot/gluepotlaw08.TableLong", spec := "tableLong", plainKeys := false, apart := false }
def TableLongSaid : Prop := tableLongRow.holds Try.pinned (OpenSpec.ofChange tableLongSpec)

/-- ITS FALSE NEIGHBOUR: 'it returns false'. Refute it at one input. -/
def tableLongWrong : ChangeSpec := { name := "tableLong", fn := fun _ => fun
  | [d1, d2] => { results := [.lit (.bool false)], args := [d1, d2] }
  | _ => none }
def TableLongWrongFalsely : Prop := tableLongRow.holds Try.pinned (OpenSpec.ofChange tableLongWrong)

/-- 'gluepotlaw14.HeapPlays': WHATEVER THE INPUT: true; the input reads as it did. -/
def heapPlaysSpec : ChangeSpec := { name := "heapPlays", fn := fun _ => fun
  | [d1, d2] => { results := [.lit (.bool true)], args := [d1, d2] }
  | _ => none }
def heapPlaysRow : OpenClaim := { program := "ytbldnjpdeldabaa", sum := "c6fd99ec5a506c302970fd9ae7ff3876ddb0b2d54bf67c32b9aa8a21fc7165a6", func := "gluepot/gluepotlaw14.HeapPlays", spec := "heapPlays", unfollowed := true, recurses := true, plainKeys := false, apart := false }
def HeapPlaysSaid : Prop := heapPlaysRow.holds Try.pinned (OpenSpec.ofChange heapPlaysSpec)

/-- ITS FALSE NEIGHBOUR: 'it returns false'. Refute it at one input. -/
def heapPlaysWrong : ChangeSpec := { name := "heapPlays", fn := fun _ => fun
  | [d1, d2] => { results := [.lit (.bool false)], args := [d1, d2] }
  | _ => none }
def HeapPlaysWrongFalsely : Prop := heapPlaysRow.holds Try.pinned (OpenSpec.ofChange heapPlaysWrong)

/-- 'gluepotlaw14.HeapNone': WHATEVER THE INPUT: true; the input reads as it did. -/
def heapNoneSpec : ChangeSpec := { name := "heapNone", fn := fun _ => fun
  | [d] => { results := [.lit (.bool true)], args := [d] }
  | _ => none }
def heapNoneRow : OpenClaim := { program := "ytbldnjpdeldabaa", sum := "c6fd99ec5a506c302970fd9ae7ff3876ddb0b2d54bf67c32b9aa8a21fc7165a6", func := "gluepot/gluepotlaw14.HeapNone", spec := "heapNone", unfollowed := true, recurses := true, plainKeys := false, apart := false }
def HeapNoneSaid : Prop := heapNoneRow.holds Try.pinned (OpenSpec.ofChange heapNoneSpec)

/-- ITS FALSE NEIGHBOUR: 'it returns false'. Refute it at one input. -/
def heapNoneWrong : ChangeSpec := { name := "heapNone", fn := fun _ => fun
  | [d] => { results := [.lit (.bool false)], args := [d] }
  | _ => none }
def HeapNoneWrongFalsely : Prop := heapNoneRow.holds Try.pinned (OpenSpec.ofChange heapNoneWrong)

/-- 'gluepotlaw14.HeapSame': WHATEVER THE INPUT: true; the input reads as it did. -/
def heapSameSpec : ChangeSpec := { name := "heapSame", fn := fun _ => fun
  | [d] => { results := [.lit (.bool true)], args := [d] }
  | _ => none }
def heapSameRow : OpenClaim := { program := "ytbldnjpdeldabaa", sum := "c6fd99ec5a506c302970fd9ae7ff3876ddb0b2d54bf67c32b9aa8a21fc7165a6", func := "gluepot/gluepotlaw14.HeapSame", spec := "heapSame", unfollowed := true, recurses := true, plainKeys := false, apart := false }
def HeapSameSaid : Prop := heapSameRow.holds Try.pinned (OpenSpec.ofChange heapSameSpec)

/-- ITS FALSE NEIGHBOUR: 'it returns false'. Refute it at one input. -/
def heapSameWrong : ChangeSpec := { name := "heapSame", fn := fun _ => fun
  | [d] => { results := [.lit (.bool false)], args := [d] }
  | _ => none }
def HeapSameWrongFalsely : Prop := heapSameRow.holds Try.pinned (OpenSpec.ofChange heapSameWrong)

/-- 'gluepotlaw18.FileWrites': WHATEVER THE INPUT: true; the input reads as it did. -/
def fileWritesSpec : ChangeSpec := { name := "fileWrites", fn := fun _ => fun
  | [d] => { results := [.lit (.bool true)], args := [d] }
  | _ => none }
def fileWritesRow : OpenClaim := { program := "ytbldnjpdeldabaa", sum := "c6fd99ec5a506c302970fd9ae7ff3876ddb0b2d54bf67c32b9aa8a21fc7165a6", func := "gluepot/gluepotlaw18.FileWrites", spec := "fileWrites", inPlace := ["internal/abi.NoEscape"], plainKeys := false, apart := false }
def FileWritesSaid : Prop := fileWritesRow.holds Try.pinned (OpenSpec.ofChange fileWritesSpec)

/-- ITS FALSE NEIGHBOUR: 'it returns false'. Refute it at one input. -/
def fileWritesWrong : ChangeSpec := { name := "fileWrites", fn := fun _ => fun
  | [d] => { results := [.lit (.bool false)], args := [d] }
  | _ => none }
def FileWritesWrongFalsely : Prop := fileWritesRow.holds Try.pinned (OpenSpec.ofChange fileWritesWrong)

/-- 'gluepotlaw18.FileCuts': WHATEVER THE INPUT: true; the input reads as it did. -/
def fileCutsSpec : ChangeSpec := { name := "fileCuts", fn := fun _ => fun
  | [d1, d2] => { results := [.lit (.bool true)], args := [d1, d2] }
  | _ => none }
def fileCutsRow : OpenClaim := { program := "ytbldnjpdeldabaa", sum := "c6fd99ec5a506c302970fd9ae7ff3876ddb0b2d54bf67c32b9aa8a21fc7165a6", func := "gluepot/gluepotlaw18.FileCuts", spec := "fileCuts", inPlace := ["internal/abi.NoEscape"], plainKeys := false, apart := false }
def FileCutsSaid : Prop := fileCutsRow.holds Try.pinned (OpenSpec.ofChange fileCutsSpec)

/-- ITS FALSE NEIGHBOUR: 'it returns false'. Refute it at one input. -/
def fileCutsWrong : ChangeSpec := { name := "fileCuts", fn := fun _ => fun
  | [d1, d2] => { results := [.lit (.bool false)], args := [d1, d2] }
  | _ => none }
def FileCutsWrongFalsely : Prop := fileCutsRow.holds Try.pinned (OpenSpec.ofChange fileCutsWrong)

/-- 'gluepotlaw15.LazyPlays': WHATEVER THE INPUT: true; the input reads as it did. -/
def lazyPlaysSpec : ChangeSpec := { name := "lazyPlays", fn := fun _ => fun
  | [d] => { results := [.lit (.bool true)], args := [d] }
  | _ => none }
def lazyPlaysRow : OpenClaim := { program := "ytbldnjpdeldabaa", sum := "c6fd99ec5a506c302970fd9ae7ff3876ddb0b2d54bf67c32b9aa8a21fc7165a6", func := "gluepot/gluepotlaw15.LazyPlays", spec := "lazyPlays", unfollowed := true, recurses := true, plainKeys := false, apart := false }
def LazyPlaysSaid : Prop := lazyPlaysRow.holds Try.pinned (OpenSpec.ofChange lazyPlaysSpec)

/-- ITS FALSE NEIGHBOUR: 'it returns false'. Refute it at one input. -/
def lazyPlaysWrong : ChangeSpec := { name := "lazyPlays", fn := fun _ => fun
  | [d] => { results := [.lit (.bool false)], args := [d] }
  | _ => none }
def LazyPlaysWrongFalsely : Prop := lazyPlaysRow.holds Try.pinned (OpenSpec.ofChange lazyPlaysWrong)

/- THE SECOND FORM. 'bulk': how many values and letters a reading holds, each counted each time it is reached (what is shared counts as often as it is met; a slice's spare places count too). A statement '..UptoSaid' is the law's where the arguments, and the package variables that the reading takes, are together of bulk at most 1048576: NARROWER than '..Said'. Prove '..Said' where nothing that the law and all that it calls make is longer than what came in: it says more and counts as full. Else prove '..UptoSaid'. A law counts once. -/
mutual
def uptoBulk {H : Type} : DataW H → Nat
  | .lit (.string bytes) => bytes.length + 1
  | .lit _ => 1
  | .nil => 1
  | .ptr d => uptoBulk d + 1
  | .slice elems spare => uptoBulkAll elems + uptoBulkAll spare + 1
  | .agg parts => uptoBulkAll parts + 1
  | .iface _ d => uptoBulk d + 1
  | .map entries => uptoBulkEntries entries + 1
  | .held _ => 1
def uptoBulkAll {H : Type} : List (DataW H) → Nat
  | [] => 0
  | d :: r => uptoBulk d + uptoBulkAll r
def uptoBulkEntries {H : Type} : List (Lit × DataW H) → Nat
  | [] => 0
  | x :: r => uptoBulkEntry x + uptoBulkEntries r
def uptoBulkEntry {H : Type} : Lit × DataW H → Nat
  | (.string bytes, d) => bytes.length + uptoBulk d + 1
  | (_, d) => uptoBulk d + 1
 end
def uptoSmall : (H : Type) → List (DataW H) → Bool := fun _ ds => decide (uptoBulkAll ds ≤ 1048576)
def OpenSpec.upto (s : _root_.Go.ChangeSpec) : _root_.Go.OpenSpec := { _root_.Go.OpenSpec.ofChange s with cond := some uptoSmall }

/-- 'gluepotlaw09.SymUnique', WHERE WHAT IT READS IS OF BULK AT MOST 1048576: true; the input reads as it did. -/
def symUniqueUptoRow : OpenClaim := { program := "ytbldnjpdeldabaa", sum := "c6fd99ec5a506c302970fd9ae7ff3876ddb0b2d54bf67c32b9aa8a21fc7165a6", func := "gluepot/gluepotlaw09.SymUnique", spec := "symUnique", plainKeys := false, apart := false, narrowed := true }
def SymUniqueUptoSaid : Prop := symUniqueUptoRow.holds Try.pinned (OpenSpec.upto symUniqueSpec)

/-- 'gluepotlaw09.SymPlays', WHERE WHAT IT READS IS OF BULK AT MOST 1048576: true; the input reads as it did. -/
def symPlaysUptoRow : OpenClaim := { program := "ytbldnjpdeldabaa", sum := "c6fd99ec5a506c302970fd9ae7ff3876ddb0b2d54bf67c32b9aa8a21fc7165a6", func := "gluepot/gluepotlaw09.SymPlays", spec := "symPlays", plainKeys := false, apart := false, narrowed := true }
def SymPlaysUptoSaid : Prop := symPlaysUptoRow.holds Try.pinned (OpenSpec.upto symPlaysSpec)

/-- 'gluepotlaw09.SymNone', WHERE WHAT IT READS IS OF BULK AT MOST 1048576: true; the input reads as it did. -/
def symNoneUptoRow : OpenClaim := { program := "ytbldnjpdeldabaa", sum := "c6fd99ec5a506c302970fd9ae7ff3876ddb0b2d54bf67c32b9aa8a21fc7165a6", func := "gluepot/gluepotlaw09.SymNone", spec := "symNone", plainKeys := false, apart := false, narrowed := true }
def SymNoneUptoSaid : Prop := symNoneUptoRow.holds Try.pinned (OpenSpec.upto symNoneSpec)

/-- 'gluepotlaw14.HeapDrains', WHERE WHAT IT READS IS OF BULK AT MOST 1048576: true; the input reads as it did. -/
def heapDrainsUptoRow : OpenClaim := { program := "ytbldnjpdeldabaa", sum := "c6fd99ec5a506c302970fd9ae7ff3876ddb0b2d54bf67c32b9aa8a21fc7165a6", func := "gluepot/gluepotlaw14.HeapDrains", spec := "heapDrains", unfollowed := true, recurses := true, plainKeys := false, apart := false, narrowed := true }
def HeapDrainsUptoSaid : Prop := heapDrainsUptoRow.holds Try.pinned (OpenSpec.upto heapDrainsSpec)

/-- 'gluepotlaw08.TableTells', WHERE WHAT IT READS IS OF BULK AT MOST 1048576: true; the input reads as it did. -/
def tableTellsUptoRow : OpenClaim := { program := "ytbldnjpdeldabaa", sum := "c6fd99ec5a506c302970fd9ae7ff3876ddb0b2d54bf67c32b9aa8a21fc7165a6", func := "gluepot/gluepotlaw08.TableTells", spec := "tableTells", plainKeys := false, apart := false, narrowed := true }
def TableTellsUptoSaid : Prop := tableTellsUptoRow.holds Try.pinned (OpenSpec.upto tableTellsSpec)

/-- 'gluepotlaw08.TableLong', WHERE WHAT IT READS IS OF BULK AT MOST 1048576: true; the input reads as it did. -/
def tableLongUptoRow : OpenClaim := { program := "ytbldnjpdeldabaa", sum := "c6fd99ec5a506c302970fd9ae7ff3876ddb0b2d54bf67c32b9aa8a21fc7165a6", func := "gluepot/gluepotlaw08.TableLong", spec := "tableLong", plainKeys := false, apart := false, narrowed := true }
def TableLongUptoSaid : Prop := tableLongUptoRow.holds Try.pinned (OpenSpec.upto tableLongSpec)

/-- 'gluepotlaw14.HeapPlays', WHERE WHAT IT READS IS OF BULK AT MOST 1048576: true; the input reads as it did. -/
def heapPlaysUptoRow : OpenClaim := { program := "ytbldnjpdeldabaa", sum := "c6fd99ec5a506c302970fd9ae7ff3876ddb0b2d54bf67c32b9aa8a21fc7165a6", func := "gluepot/gluepotlaw14.HeapPlays", spec := "heapPlays", unfollowed := true, recurses := true, plainKeys := false, apart := false, narrowed := true }
def HeapPlaysUptoSaid : Prop := heapPlaysUptoRow.holds Try.pinned (OpenSpec.upto heapPlaysSpec)

/-- 'gluepotlaw14.HeapNone', WHERE WHAT IT READS IS OF BULK AT MOST 1048576: true; the input reads as it did. -/
def heapNoneUptoRow : OpenClaim := { program := "ytbldnjpdeldabaa", sum := "c6fd99ec5a506c302970fd9ae7ff3876ddb0b2d54bf67c32b9aa8a21fc7165a6", func := "gluepot/gluepotlaw14.HeapNone", spec := "heapNone", unfollowed := true, recurses := true, plainKeys := false, apart := false, narrowed := true }
def HeapNoneUptoSaid : Prop := heapNoneUptoRow.holds Try.pinned (OpenSpec.upto heapNoneSpec)

/-- 'gluepotlaw14.HeapSame', WHERE WHAT IT READS IS OF BULK AT MOST 1048576: true; the input reads as it did. -/
def heapSameUptoRow : OpenClaim := { program := "ytbldnjpdeldabaa", sum := "c6fd99ec5a506c302970fd9ae7ff3876ddb0b2d54bf67c32b9aa8a21fc7165a6", func := "gluepot/gluepotlaw14.HeapSame", spec := "heapSame", unfollowed := true, recurses := true, plainKeys := false, apart := false, narrowed := true }
def HeapSameUptoSaid : Prop := heapSameUptoRow.holds Try.pinned (OpenSpec.upto heapSameSpec)

/-- 'gluepotlaw18.FileWrites', WHERE WHAT IT READS IS OF BULK AT MOST 1048576: true; the input reads as it did. -/
def fileWritesUptoRow : OpenClaim := { program := "ytbldnjpdeldabaa", sum := "c6fd99ec5a506c302970fd9ae7ff3876ddb0b2d54bf67c32b9aa8a21fc7165a6", func := "gluepot/gluepotlaw18.FileWrites", spec := "fileWrites", inPlace := ["internal/abi.NoEscape"], plainKeys := false, apart := false, narrowed := true }
def FileWritesUptoSaid : Prop := fileWritesUptoRow.holds Try.pinned (OpenSpec.upto fileWritesSpec)

/-- 'gluepotlaw18.FileCuts', WHERE WHAT IT READS IS OF BULK AT MOST 1048576: true; the input reads as it did. -/
def fileCutsUptoRow : OpenClaim := { program := "ytbldnjpdeldabaa", sum := "c6fd99ec5a506c302970fd9ae7ff3876ddb0b2d54bf67c32b9aa8a21fc7165a6", func := "gluepot/gluepotlaw18.FileCuts", spec := "fileCuts", inPlace := ["internal/abi.NoEscape"], plainKeys := false, apart := false, narrowed := true }
def FileCutsUptoSaid : Prop := fileCutsUptoRow.holds Try.pinned (OpenSpec.upto fileCutsSpec)

/-- 'gluepotlaw15.LazyPlays', WHERE WHAT IT READS IS OF BULK AT MOST 1048576: true; the input reads as it did. -/
def lazyPlaysUptoRow : OpenClaim := { program := "ytbldnjpdeldabaa", sum := "c6fd99ec5a506c302970fd9ae7ff3876ddb0b2d54bf67c32b9aa8a21fc7165a6", func := "gluepot/gluepotlaw15.LazyPlays", spec := "lazyPlays", unfollowed := true, recurses := true, plainKeys := false, apart := false, narrowed := true }
def LazyPlaysUptoSaid : Prop := lazyPlaysUptoRow.holds Try.pinned (OpenSpec.upto lazyPlaysSpec)

end Rows
end Go.Proofs.Ytbldnjpdeldabaa
