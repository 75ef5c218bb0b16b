/- DeltaApplies, the row: any changes, applied at once behind any deeds, leave what the document says, and tell the pairs whose counts are others, or the error. No condition. -/
import Derived.Test.YtaecngdabgnamaaRows
import Derived.Test.YtaecngdabgnamaaDeltaApplies
import Derived.WalkKit
import Derived.ProofKit
import Derived.OpenShut
import Derived.ShutString
import Derived.ChangeOld
import Derived.SizedLaws
import Derived.Lib.SmallJoins
namespace Go.Proofs.Ytaecngdabgnamaa.deltaApplies
open Go.ChangeShapes Go.WideShapes Go.ChangeAt Go.RowKit Go.Deep Go.Proofs.YtaecngdabgnamaaW.PrintWords OpenArg Base Kinds Delta DeltaApplies
open Go.ChangeMaps (open_string shut_string)
set_option linter.unusedVariables false
theorem own : ownKnob Try.prog.godebug = none := by kernel_rfl
theorem laidOut : laidOutB Try.prog = true := by kernel_rfl
set_option maxRecDepth 100000 in
theorem lifted (os : Os) (started : os.Started) (H : Type) (enc : TypeId × Value → H) :
    ReturnsInHanded {} Try.checked os 8 .any (Rows.deltaAppliesSpec.pre6 enc Try.prog Try.f8 Rows.deltaAppliesRow.domain false) (Rows.deltaAppliesSpec.post enc Try.prog Try.f8 false true false false) := by
  refine returnsInHanded_of_change_sized (C := Try.checked) own started (by kernel_rfl) Try.func8
    (ChangeSpec.witness6 (enc := enc) (C := Try.checked) false ⟨#[], #[.slice none 0 0, .slice none 0 0, .int .i64 0], []⟩ 8 (by kernel_rfl) (by kernel_rfl) (by kernel_rfl) (by kernel_rfl)) ?_
  intro W base args ds gs before hval0 hW hcnd hsz0 _
  have hsz : (DataW.weightsEach Try.prog (Try.f8.params.toList ++ Rows.deltaAppliesSpec.plain.varTypes Try.prog) (ds ++ gs)).all (· ≤ reachBytes) = true := hsz0
  have hval : ∀ (j : Nat) t v, Try.f8.params[j]? = some t → args[j]? = some v → Value.okWide Try.prog W .any base t v := hval0
  have hW' := hW
  obtain ⟨p, q, hA0, hV, rfl, hfz, hnd⟩ := hW
  have hA : DataW.TrodAll enc Try.prog W 0 (fun _ => true) true Try.f8.params.toList args.toList ds p := hA0
  rw [Try.params8] at hA hval hsz
  obtain ⟨v0, vs0, d0, ds0, p0, q0, hargs, rfl, rfl, h0, r0⟩ := trodAll_cons hA
  obtain ⟨v1, vs1, d1, ds1, p1, q1, rfl, rfl, rfl, h1, r1⟩ := trodAll_cons r0
  obtain ⟨v2, vs2, d2, ds2, p2, q2, rfl, rfl, rfl, h2, r2⟩ := trodAll_cons r1
  obtain ⟨rfl, rfl, rfl⟩ := trodAll_nil r2
  obtain rfl : args = #[v0, v1, v2] := by cases args; simp_all
  obtain ⟨rfl, rfl⟩ := trodVars_none hV
  obtain ⟨A0, len0, cap0, rfl⟩ := okWide_slice Try.underlying48 (hval 0 48 v0 rfl rfl)
  have k0 := h0
  have lt0 : ∀ x ∈ p0, x.block < W.heap.size := by obtain ⟨m, hm⟩ := k0; exact DataW.trod_lt m _ _ _ hm
  obtain ⟨l0, hl0, hc0, hr0, hg0, hs0⟩ : ∃ l, l.length = len0 ∧ l.length ≤ cap0 ∧ Kd.C kDeed W A0 l.length l ∧ (∀ a ∈ l, (fun (a : Dl) => ((In64 a.1.1.1 ∧ In64 a.1.1.2) ∧ In64 a.1.2) ∧ In64 a.2) a) ∧ l.length * Try.prog.bytesOf 57 ≤ reachBytes := by
    obtain ⟨fuel, hf⟩ := h0
    obtain ⟨A', l, cap', hcs, hlc, hcm, hC, hG, hL⟩ := open_row kDeed (fun (a : Dl) => ((In64 a.1.1.1 ∧ In64 a.1.1.2) ∧ In64 a.1.2) ∧ In64 a.2) Try.underlying48 (by kernel_rfl) (fun n cs y hy => dec_Deed n cs y hy) hf
    have hR := row_reach hsz (j := 0) (t := 48) rfl rfl Try.underlying48 hL
    simp [Value.cells] at hcs
    obtain ⟨rfl, rfl, rfl⟩ := hcs
    exact ⟨l, rfl, hlc, hC, hG, hR⟩
  subst hl0
  have b0 : Try.prog.bytesOf 57 = 32 := by kernel_rfl
  rw [b0] at hs0
  obtain ⟨A1, len1, cap1, rfl⟩ := okWide_slice Try.underlying28 (hval 1 28 v1 rfl rfl)
  have k1 := h1
  have lt1 : ∀ x ∈ p1, x.block < W.heap.size := by obtain ⟨m, hm⟩ := k1; exact DataW.trod_lt m _ _ _ hm
  obtain ⟨l1, hl1, hc1, hr1, hg1, hs1⟩ : ∃ l, l.length = len1 ∧ l.length ≤ cap1 ∧ Kd.C kStep W A1 l.length l ∧ (∀ a ∈ l, (fun (a : (Int × Int) × Int) => (In64 a.1.1 ∧ In64 a.1.2) ∧ In64 a.2) a) ∧ l.length * Try.prog.bytesOf 47 ≤ reachBytes := by
    obtain ⟨fuel, hf⟩ := h1
    obtain ⟨A', l, cap', hcs, hlc, hcm, hC, hG, hL⟩ := open_row kStep (fun (a : (Int × Int) × Int) => (In64 a.1.1 ∧ In64 a.1.2) ∧ In64 a.2) Try.underlying28 (by kernel_rfl) (fun n cs y hy => dec_Change n cs y hy) hf
    have hR := row_reach hsz (j := 1) (t := 28) rfl rfl Try.underlying28 hL
    simp [Value.cells] at hcs
    obtain ⟨rfl, rfl, rfl⟩ := hcs
    exact ⟨l, rfl, hlc, hC, hG, hR⟩
  subst hl1
  have b1 : Try.prog.bytesOf 47 = 24 := by kernel_rfl
  rw [b1] at hs1
  obtain ⟨a2, rfl, rfl, rfl, w2⟩ := open_int Try.underlying3 (hval 2 3 v2 rfl rfl) h2
  clear hA0 hval0 hsz0 hsz
  refine (walk W A0 cap0 l0 hr0 hc0 hg0 hs0 A1 cap1 l1 hr1 hc1 hg1 hs1 a2 w2).mono fun e W' ⟨he, bel⟩ => ?_
  subst he
  exact ⟨_, rfl, _, _, _, [], _, [], hW', trodAll_mk1 (shut_bool Try.underlying4 _), (trodAll_cons_mk (Below.trod laidOut (by kernel_rfl) (of_decide_eq_true (by kernel_rfl)) k0 bel lt0) (trodAll_cons_mk (Below.trod laidOut (by kernel_rfl) (of_decide_eq_true (by kernel_rfl)) k1 bel lt1) (trodAll_cons_mk (shut_int Try.underlying3 w2) trodAll_mk0))), rfl, bel.frame _, fun h => by cases h⟩
theorem over : Rows.deltaAppliesRow.holds Try.pinned (OpenSpec.ofChange Rows.deltaAppliesSpec) :=
  OpenClaim.holds_of_wide 8 Try.f8 rfl rfl rfl rfl rfl rfl rfl ⟨rfl, rfl, rfl, rfl, rfl⟩ rfl rfl rfl rfl rfl (by kernel_rfl) Try.func8 (by kernel_rfl)
    (of_decide_eq_true (by kernel_rfl)) (by unfold Func.isWrapper; first | (rw [if_pos (by decide +kernel)]; kernel_rfl) | (rw [if_neg (by decide +kernel)]; exact ⟨rfl, rfl⟩))
    (fun os started H enc _ => lifted os started H enc)
theorem proved : Rows.DeltaAppliesSaid := over
end Go.Proofs.Ytaecngdabgnamaa.deltaApplies
namespace Go.Proofs.Ytaecngdabgnamaa
/-- The row, under a short name, for the claim. -/
theorem deltaApplies_holds : Rows.DeltaAppliesSaid := deltaApplies.proved
#print axioms deltaApplies_holds
end Go.Proofs.Ytaecngdabgnamaa
