/-
  No cell of these rows narrows 'for every input' (looked for: loops, veiled, ifaces, maps, wideKeys, modest, calm, conditions, laid).
  DERIVED. THE GIVEN ROWS OF THIS SEAT. 8 by the template 'for every input the law returns true; each argument reads behind the call as it read before'; 0 by the template 'total and deterministic' (their statements: YthpdamkpefgmaaaTotals.lean).
  GIVEN WITH THE SEED: the statements are not yours to turn. If you find one false, say at which input.
  Laid BY PROGRAM, IN A SANDBOX (cutbox-rows.mjs): the forced cells as the released guide's own fill.sh prints them over the translation 9be5bba997adc976… (all of the seat's roots in one cut). By AI agents, Wed Nov 11 2026. No macro, syntax, notation, axiom, sorry.
-/
import Derived.Test.YthpdamkpefgmaaaChecked
import GoSem.Claim
import GoSem.ClaimJoined
import GoSem.ClaimMapViews
import Derived.JoinedTies
import Derived.KernelRfl
namespace Go.Proofs.Ythpdamkpefgmaaa
/- THE CELL 'sum', in the pinned program and in every row, IS THE sha256 OF THE DUMP (.gsa) THAT YthpdamkpefgmaaaProg.lean LOADS. Nothing in Lean hashes anything: it is a label: what it is worth is what the hold of that sum in a sandbox is worth. -/
noncomputable def Try.pinned : Pinned := { name := "ythpdamkpefgmaaa", sum := "9be5bba997adc9764abf8e72c1011dfc403721f06a12463e0ddf7f5c71f3944c", checked := Try.checked }
namespace Rows
def none {H : Type} : Left H := { results := [], args := [] }

/-- 'gluepotlaw15.LazyPlays': WHATEVER THE INPUT: true; the input reads as it did. -/
def lazyPlaysSpec : ChangeSpec := { name := "lazyPlays", fn := fun _ => fun
  | [d] => { results := [.lit (.bool true)], args := [d] }
  | _ => none }
def lazyPlaysRow : OpenClaim := { program := "ythpdamkpefgmaaa", sum := "9be5bba997adc9764abf8e72c1011dfc403721f06a12463e0ddf7f5c71f3944c", func := "gluepot/gluepotlaw15.LazyPlays", spec := "lazyPlays", unfollowed := true, recurses := true, plainKeys := false, apart := false }
def LazyPlaysSaid : Prop := lazyPlaysRow.holds Try.pinned (OpenSpec.ofChange lazyPlaysSpec)

/-- ITS FALSE NEIGHBOUR: 'it returns false'. Refute it at one input. -/
def lazyPlaysWrong : ChangeSpec := { name := "lazyPlays", fn := fun _ => fun
  | [d] => { results := [.lit (.bool false)], args := [d] }
  | _ => none }
def LazyPlaysWrongFalsely : Prop := lazyPlaysRow.holds Try.pinned (OpenSpec.ofChange lazyPlaysWrong)

/-- 'gluepotlaw15.LazyAll': WHATEVER THE INPUT: true; the input reads as it did. -/
def lazyAllSpec : ChangeSpec := { name := "lazyAll", fn := fun _ => fun
  | [d] => { results := [.lit (.bool true)], args := [d] }
  | _ => none }
def lazyAllRow : OpenClaim := { program := "ythpdamkpefgmaaa", sum := "9be5bba997adc9764abf8e72c1011dfc403721f06a12463e0ddf7f5c71f3944c", func := "gluepot/gluepotlaw15.LazyAll", spec := "lazyAll", unfollowed := true, recurses := true, plainKeys := false, apart := false }
def LazyAllSaid : Prop := lazyAllRow.holds Try.pinned (OpenSpec.ofChange lazyAllSpec)

/-- ITS FALSE NEIGHBOUR: 'it returns false'. Refute it at one input. -/
def lazyAllWrong : ChangeSpec := { name := "lazyAll", fn := fun _ => fun
  | [d] => { results := [.lit (.bool false)], args := [d] }
  | _ => none }
def LazyAllWrongFalsely : Prop := lazyAllRow.holds Try.pinned (OpenSpec.ofChange lazyAllWrong)

/-- 'gluepotlaw15.LazyNone': WHATEVER THE INPUT: true; the input reads as it did. -/
def lazyNoneSpec : ChangeSpec := { name := "lazyNone", fn := fun _ => fun
  | [d1, d2] => { results := [.lit (.bool true)], args := [d1, d2] }
  | _ => none }
def lazyNoneRow : OpenClaim := { program := "ythpdamkpefgmaaa", sum := "9be5bba997adc9764abf8e72c1011dfc403721f06a12463e0ddf7f5c71f3944c", func := "gluepot/gluepotlaw15.LazyNone", spec := "lazyNone", unfollowed := true, recurses := true, plainKeys := false, apart := false }
def LazyNoneSaid : Prop := lazyNoneRow.holds Try.pinned (OpenSpec.ofChange lazyNoneSpec)

/-- ITS FALSE NEIGHBOUR: 'it returns false'. Refute it at one input. -/
def lazyNoneWrong : ChangeSpec := { name := "lazyNone", fn := fun _ => fun
  | [d1, d2] => { results := [.lit (.bool false)], args := [d1, d2] }
  | _ => none }
def LazyNoneWrongFalsely : Prop := lazyNoneRow.holds Try.pinned (OpenSpec.ofChange lazyNoneWrong)

/-- 'gluepotlaw10.PairBest': WHATEVER THE INPUT: true; the input reads as it did. -/
def pairBestSpec : ChangeSpec := { name := "pairBest", fn := fun _ => fun
  | [d1, d2] => { results := [.lit (.bool true)], args := [d1, d2] }
  | _ => none }
def pairBestRow : OpenClaim := { program := "ythpdamkpefgmaaa", sum := "9be5bba997adc9764abf8e72c1011dfc403721f06a12463e0ddf7f5c71f3944c", func := "gluepot/gluepotlaw10.PairBest", spec := "pairBest", unfollowed := true, recurses := true, plainKeys := false, apart := false }
def PairBestSaid : Prop := pairBestRow.holds Try.pinned (OpenSpec.ofChange pairBestSpec)

/-- ITS FALSE NEIGHBOUR: 'it returns false'. Refute it at one input. -/
def pairBestWrong : ChangeSpec := { name := "pairBest", fn := fun _ => fun
  | [d1, d2] => { results := [.lit (.bool false)], args := [d1, d2] }
  | _ => none }
def PairBestWrongFalsely : Prop := pairBestRow.holds Try.pinned (OpenSpec.ofChange pairBestWrong)

/-- 'gluepotlaw10.PairTells': WHATEVER THE INPUT: true; the input reads as it did. -/
def pairTellsSpec : ChangeSpec := { name := "pairTells", fn := fun _ => fun
  | [d1, d2, d3, d4] => { results := [.lit (.bool true)], args := [d1, d2, d3, d4] }
  | _ => none }
def pairTellsRow : OpenClaim := { program := "ythpdamkpefgmaaa", sum := "9be5bba997adc9764abf8e72c1011dfc403721f06a12463e0ddf7f5c71f3944c", func := "gluepot/gluepotlaw10.PairTells", spec := "pairTells", unfollowed := true, recurses := true, plainKeys := false, apart := false }
def PairTellsSaid : Prop := pairTellsRow.holds Try.pinned (OpenSpec.ofChange pairTellsSpec)

/-- ITS FALSE NEIGHBOUR: 'it returns false'. Refute it at one input. -/
def pairTellsWrong : ChangeSpec := { name := "pairTells", fn := fun _ => fun
  | [d1, d2, d3, d4] => { results := [.lit (.bool false)], args := [d1, d2, d3, d4] }
  | _ => none }
def PairTellsWrongFalsely : Prop := pairTellsRow.holds Try.pinned (OpenSpec.ofChange pairTellsWrong)

/-- 'gluepotlaw07.FreqNone': WHATEVER THE INPUT: true; the input reads as it did. -/
def freqNoneSpec : ChangeSpec := { name := "freqNone", fn := fun _ => fun
  | [d] => { results := [.lit (.bool true)], args := [d] }
  | _ => none }
def freqNoneRow : OpenClaim := { program := "ythpdamkpefgmaaa", sum := "9be5bba997adc9764abf8e72c1011dfc403721f06a12463e0ddf7f5c71f3944c", func := "gluepot/gluepotlaw07.FreqNone", spec := "freqNone", unfollowed := true, recurses := true, plainKeys := false, apart := false }
def FreqNoneSaid : Prop := freqNoneRow.holds Try.pinned (OpenSpec.ofChange freqNoneSpec)

/-- ITS FALSE NEIGHBOUR: 'it returns false'. Refute it at one input. -/
def freqNoneWrong : ChangeSpec := { name := "freqNone", fn := fun _ => fun
  | [d] => { results := [.lit (.bool false)], args := [d] }
  | _ => none }
def FreqNoneWrongFalsely : Prop := freqNoneRow.holds Try.pinned (OpenSpec.ofChange freqNoneWrong)

/-- 'gluepotlaw07.FreqOrder': WHATEVER THE INPUT: true; the input reads as it did. -/
def freqOrderSpec : ChangeSpec := { name := "freqOrder", fn := fun _ => fun
  | [d1, d2, d3] => { results := [.lit (.bool true)], args := [d1, d2, d3] }
  | _ => none }
def freqOrderRow : OpenClaim := { program := "ythpdamkpefgmaaa", sum := "9be5bba997adc9764abf8e72c1011dfc403721f06a12463e0ddf7f5c71f3944c", func := "gluepot/gluepotlaw07.FreqOrder", spec := "freqOrder", unfollowed := true, recurses := true, plainKeys := false, apart := false }
def FreqOrderSaid : Prop := freqOrderRow.holds Try.pinned (OpenSpec.ofChange freqOrderSpec)

/-- ITS FALSE NEIGHBOUR: 'it returns false'. Refute it at one input. -/
def freqOrderWrong : ChangeSpec := { name := "freqOrder", fn := fun _ => fun
  | [d1, d2, d3] => { results := [.lit (.bool false)], args := [d1, d2, d3] }
  | _ => none }
def FreqOrderWrongFalsely : Prop := freqOrderRow.holds Try.pinned (OpenSpec.ofChange freqOrderWrong)

/-- 'gluepotlaw07.FreqPlays': WHATEVER THE INPUT: true; the input reads as it did. -/
def freqPlaysSpec : ChangeSpec := { name := "freqPlays", fn := fun _ => fun
  | [d1, d2] => { results := [.lit (.bool true)], args := [d1, d2] }
  | _ => none }
def freqPlaysRow : OpenClaim := { program := "ythpdamkpefgmaaa", sum := "9be5bba997adc9764abf8e72c1011dfc403721f06a12463e0ddf7f5c71f3944c", func := "gluepot/gluepotlaw07.FreqPlays", spec := "freqPlays", unfollowed := true, recurses := true, plainKeys := false, apart := false }
def FreqPlaysSaid : Prop := freqPlaysRow.holds Try.pinned (OpenSpec.ofChange freqPlaysSpec)

/-- ITS FALSE NEIGHBOUR: 'it returns false'. Refute it at one input. -/
def freqPlaysWrong : ChangeSpec := { name := "freqPlays", fn := fun _ => fun
  | [d1, d2] => { results := [.lit (.bool false)], args := [d1, d2] }
  | _ => none }
def FreqPlaysWrongFalsely : Prop := freqPlaysRow.holds Try.pinned (OpenSpec.ofChange freqPlaysWrong)

/- THE SECOND FORM. 'bulk': how many values and letters a reading holds, each counted each time it is reached (what is shared counts as often as it is met; a slice's spare places count too). A statement '..UptoSaid' is the law's where the arguments, and the package variables that the reading takes, are together of bulk at most 1048576: NARROWER than '..Said'. Prove '..Said' where nothing that the law and all that it calls make is longer than what came in: it says more and counts as full. Else prove '..UptoSaid'. A law counts once. -/
mutual
def uptoBulk {H : Type} : DataW H → Nat
  | .lit (.string bytes) => bytes.length + 1
  | .lit _ => 1
  | .nil => 1
  | .ptr d => uptoBulk d + 1
  | .slice elems spare => uptoBulkAll elems + uptoBulkAll spare + 1
  | .agg parts => uptoBulkAll parts + 1
  | .iface _ d => uptoBulk d + 1
  | .map entries => uptoBulkEntries entries + 1
  | .held _ => 1
def uptoBulkAll {H : Type} : List (DataW H) → Nat
  | [] => 0
  | d :: r => uptoBulk d + uptoBulkAll r
def uptoBulkEntries {H : Type} : List (Lit × DataW H) → Nat
  | [] => 0
  | x :: r => uptoBulkEntry x + uptoBulkEntries r
def uptoBulkEntry {H : Type} : Lit × DataW H → Nat
  | (.string bytes, d) => bytes.length + uptoBulk d + 1
  | (_, d) => uptoBulk d + 1
 end
def uptoSmall : (H : Type) → List (DataW H) → Bool := fun _ ds => decide (uptoBulkAll ds ≤ 1048576)
def OpenSpec.upto (s : _root_.Go.ChangeSpec) : _root_.Go.OpenSpec := { _root_.Go.OpenSpec.ofChange s with cond := some uptoSmall }

/-- 'gluepotlaw15.LazyPlays', WHERE WHAT IT READS IS OF BULK AT MOST 1048576: true; the input reads as it did. -/
def lazyPlaysUptoRow : OpenClaim := { program := "ythpdamkpefgmaaa", sum := "9be5bba997adc9764abf8e72c1011dfc403721f06a12463e0ddf7f5c71f3944c", func := "gluepot/gluepotlaw15.LazyPlays", spec := "lazyPlays", unfollowed := true, recurses := true, plainKeys := false, apart := false, narrowed := true }
def LazyPlaysUptoSaid : Prop := lazyPlaysUptoRow.holds Try.pinned (OpenSpec.upto lazyPlaysSpec)

/-- 'gluepotlaw15.LazyAll', WHERE WHAT IT READS IS OF BULK AT MOST 1048576: true; the input reads as it did. -/
def lazyAllUptoRow : OpenClaim := { program := "ythpdamkpefgmaaa", sum := "9be5bba997adc9764abf8e72c1011dfc403721f06a12463e0ddf7f5c71f3944c", func := "gluepot/gluepotlaw15.LazyAll", spec := "lazyAll", unfollowed := true, recurses := true, plainKeys := false, apart := false, narrowed := true }
def LazyAllUptoSaid : Prop := lazyAllUptoRow.holds Try.pinned (OpenSpec.upto lazyAllSpec)

/-- 'gluepotlaw15.LazyNone', WHERE WHAT IT READS IS OF BULK AT MOST 1048576: true; the input reads as it did. -/
def lazyNoneUptoRow : OpenClaim := { program := "ythpdamkpefgmaaa", sum := "9be5bba997adc9764abf8e72c1011dfc403721f06a12463e0ddf7f5c71f3944c", func := "gluepot/gluepotlaw15.LazyNone", spec := "lazyNone", unfollowed := true, recurses := true, plainKeys := false, apart := false, narrowed := true }
def LazyNoneUptoSaid : Prop := lazyNoneUptoRow.holds Try.pinned (OpenSpec.upto lazyNoneSpec)

/-- 'gluepotlaw10.PairBest', WHERE WHAT IT READS IS OF BULK AT MOST 1048576: true; the input reads as it did. -/
def pairBestUptoRow : OpenClaim := { program := "ythpdamkpefgmaaa", sum := "9be5bba997adc9764abf8e72c1011dfc403721f06a12463e0ddf7f5c71f3944c", func := "gluepot/gluepotlaw10.PairBest", spec := "pairBest", unfollowed := true, recurses := true, plainKeys := false, apart := false, narrowed := true }
def PairBestUptoSaid : Prop := pairBestUptoRow.holds Try.pinned (OpenSpec.upto pairBestSpec)

/-- 'gluepotlaw10.PairTells', WHERE WHAT IT READS IS OF BULK AT MOST 1048576: true; the input reads as it did. -/
def pairTellsUptoRow : OpenClaim := { program := "ythpdamkpefgmaaa", sum := "9be5bba997adc9764abf8e72c1011dfc403721f06a12463e0ddf7f5c71f3944c", func := "gluepot/gluepotlaw10.PairTells", spec := "pairTells", unfollowed := true, recurses := true, plainKeys := false, apart := false, narrowed := true }
def PairTellsUptoSaid : Prop := pairTellsUptoRow.holds Try.pinned (OpenSpec.upto pairTellsSpec)

/-- 'gluepotlaw07.FreqNone', WHERE WHAT IT READS IS OF BULK AT MOST 1048576: true; the input reads as it did. -/
def freqNoneUptoRow : OpenClaim := { program := "ythpdamkpefgmaaa", sum := "9be5bba997adc9764abf8e72c1011dfc403721f06a12463e0ddf7f5c71f3944c", func := "gluepot/gluepotlaw07.FreqNone", spec := "freqNone", unfollowed := true, recurses := true, plainKeys := false, apart := false, narrowed := true }
def FreqNoneUptoSaid : Prop := freqNoneUptoRow.holds Try.pinned (OpenSpec.upto freqNoneSpec)

/-- 'gluepotlaw07.FreqOrder', WHERE WHAT IT READS IS OF BULK AT MOST 1048576: true; the input reads as it did. -/
def freqOrderUptoRow : OpenClaim := { program := "ythpdamkpefgmaaa", sum := "9be5bba997adc9764abf8e72c1011dfc403721f06a12463e0ddf7f5c71f3944c", func := "gluepot/gluepotlaw07.FreqOrder", spec := "freqOrder", unfollowed := true, recurses := true, plainKeys := false, apart := false, narrowed := true }
def FreqOrderUptoSaid : Prop := freqOrderUptoRow.holds Try.pinned (OpenSpec.upto freqOrderSpec)

/-- 'gluepotlaw07.FreqPlays', WHERE WHAT IT READS IS OF BULK AT MOST 1048576: true; the input reads as it did. -/
def freqPlaysUptoRow : OpenClaim := { program := "ythpdamkpefgmaaa", sum := "9be5bba997adc9764abf8e72c1011dfc403721f06a12463e0ddf7f5c71f3944c", func := "gluepot/gluepotlaw07.FreqPlays", spec := "freqPlays", unfollowed := true, recurses := true, plainKeys := false, apart := false, narrowed := true }
def FreqPlaysUptoSaid : Prop := freqPlaysUptoRow.holds Try.pinned (OpenSpec.upto freqPlaysSpec)

end Rows
end Go.Proofs.Ythpdamkpefgmaaa
