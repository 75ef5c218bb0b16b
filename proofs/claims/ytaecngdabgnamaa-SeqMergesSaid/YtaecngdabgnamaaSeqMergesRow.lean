/- SeqMerges, the row: through any merges of any word the symbols, how often it was merged, the changes, and the pairs, are what the document says. No condition. -/
import Derived.Test.YtaecngdabgnamaaRows
import Derived.Test.YtaecngdabgnamaaSeqMerges
import Derived.WalkKit
import Derived.ProofKit
import Derived.OpenShut
import Derived.ShutString
import Derived.ChangeOld
import Derived.SizedLaws
import Derived.Lib.SmallJoins
namespace Go.Proofs.Ytaecngdabgnamaa.seqMerges
open Go.ChangeShapes Go.WideShapes Go.ChangeAt Go.RowKit Go.Deep Go.Proofs.YtaecngdabgnamaaW.PrintWords OpenArg Base Kinds SeqMerges
open Go.ChangeMaps (open_string shut_string)
set_option linter.unusedVariables false
theorem own : ownKnob Try.prog.godebug = none := by kernel_rfl
theorem laidOut : laidOutB Try.prog = true := by kernel_rfl
set_option maxRecDepth 100000 in
theorem lifted (os : Os) (started : os.Started) (H : Type) (enc : TypeId × Value → H) :
    ReturnsInHanded {} Try.checked os 4 .any (Rows.seqMergesSpec.pre6 enc Try.prog Try.f4 Rows.seqMergesRow.domain false) (Rows.seqMergesSpec.post enc Try.prog Try.f4 false true false false) := by
  refine returnsInHanded_of_change_sized (C := Try.checked) own started (by kernel_rfl) Try.func4
    (ChangeSpec.witness6 (enc := enc) (C := Try.checked) false ⟨#[], #[.string ByteArray.empty, .slice none 0 0], []⟩ 8 (by kernel_rfl) (by kernel_rfl) (by kernel_rfl) (by kernel_rfl)) ?_
  intro W base args ds gs before hval0 hW hcnd hsz0 _
  have hsz : (DataW.weightsEach Try.prog (Try.f4.params.toList ++ Rows.seqMergesSpec.plain.varTypes Try.prog) (ds ++ gs)).all (· ≤ reachBytes) = true := hsz0
  have hval : ∀ (j : Nat) t v, Try.f4.params[j]? = some t → args[j]? = some v → Value.okWide Try.prog W .any base t v := hval0
  have hW' := hW
  obtain ⟨p, q, hA0, hV, rfl, hfz, hnd⟩ := hW
  have hA : DataW.TrodAll enc Try.prog W 0 (fun _ => true) true Try.f4.params.toList args.toList ds p := hA0
  rw [Try.params4] at hA hval hsz
  obtain ⟨v0, vs0, d0, ds0, p0, q0, hargs, rfl, rfl, h0, r0⟩ := trodAll_cons hA
  obtain ⟨v1, vs1, d1, ds1, p1, q1, rfl, rfl, rfl, h1, r1⟩ := trodAll_cons r0
  obtain ⟨rfl, rfl, rfl⟩ := trodAll_nil r1
  obtain rfl : args = #[v0, v1] := by cases args; simp_all
  obtain ⟨rfl, rfl⟩ := trodVars_none hV
  obtain ⟨a0, rfl, rfl, rfl, y0⟩ := open_string Try.underlying9 (hval 0 9 v0 rfl rfl) h0
  have w0 : a0.size ≤ 140737488351232 := by
    have z := sized_string hsz (j := 0) (t := 9) rfl rfl
    rw [Array.length_toList] at z
    exact z
  obtain ⟨A1, len1, cap1, rfl⟩ := okWide_slice Try.underlying32 (hval 1 32 v1 rfl rfl)
  have k1 := h1
  have lt1 : ∀ x ∈ p1, x.block < W.heap.size := by obtain ⟨m, hm⟩ := k1; exact DataW.trod_lt m _ _ _ hm
  obtain ⟨l1, hl1, hc1, hr1, hg1, hs1⟩ : ∃ l, l.length = len1 ∧ l.length ≤ cap1 ∧ Kd.C kStep W A1 l.length l ∧ (∀ a ∈ l, (fun (x : (Int × Int) × Int) => (In64 x.1.1 ∧ In64 x.1.2) ∧ In64 x.2) a) ∧ l.length * Try.prog.bytesOf 36 ≤ reachBytes := by
    obtain ⟨fuel, hf⟩ := h1
    obtain ⟨A', l, cap', hcs, hlc, hcm, hC, hG, hL⟩ := open_row kStep (fun (x : (Int × Int) × Int) => (In64 x.1.1 ∧ In64 x.1.2) ∧ In64 x.2) Try.underlying32 (by kernel_rfl) (fun n cs y hy => dec_Step n cs y hy) hf
    have hR := row_reach hsz (j := 1) (t := 32) rfl rfl Try.underlying32 hL
    simp [Value.cells] at hcs
    obtain ⟨rfl, rfl, rfl⟩ := hcs
    exact ⟨l, rfl, hlc, hC, hG, hR⟩
  subst hl1
  have b1 : Try.prog.bytesOf 36 = 24 := by kernel_rfl
  rw [b1] at hs1
  clear hA0 hval0 hsz0 hsz
  refine (walk W a0 w0 A1 cap1 l1 hr1 hc1 hg1 hs1).mono fun e W' ⟨he, bel⟩ => ?_
  subst he
  exact ⟨_, rfl, _, _, _, [], _, [], hW', trodAll_mk1 (shut_bool Try.underlying4 _), (trodAll_cons_mk (shut_string Try.underlying9 y0) (trodAll_cons_mk (Below.trod laidOut (by kernel_rfl) (of_decide_eq_true (by kernel_rfl)) k1 bel lt1) trodAll_mk0)), rfl, bel.frame _, fun h => by cases h⟩
theorem over : Rows.seqMergesRow.holds Try.pinned (OpenSpec.ofChange Rows.seqMergesSpec) :=
  OpenClaim.holds_of_wide 4 Try.f4 rfl rfl rfl rfl rfl rfl rfl ⟨rfl, rfl, rfl, rfl, rfl⟩ rfl rfl rfl rfl rfl (by kernel_rfl) Try.func4 (by kernel_rfl)
    (of_decide_eq_true (by kernel_rfl)) (by unfold Func.isWrapper; first | (rw [if_pos (by decide +kernel)]; kernel_rfl) | (rw [if_neg (by decide +kernel)]; exact ⟨rfl, rfl⟩))
    (fun os started H enc _ => lifted os started H enc)
theorem proved : Rows.SeqMergesSaid := over
end Go.Proofs.Ytaecngdabgnamaa.seqMerges
namespace Go.Proofs.Ytaecngdabgnamaa
/-- The row, under a short name, for the claim. -/
theorem seqMerges_holds : Rows.SeqMergesSaid := seqMerges.proved
#print axioms seqMerges_holds
end Go.Proofs.Ytaecngdabgnamaa
