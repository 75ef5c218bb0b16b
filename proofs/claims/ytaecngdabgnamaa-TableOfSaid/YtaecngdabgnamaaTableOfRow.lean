/- TableOf, the row: the table of any texts is what the document says, and right; whether parameters are right, too. No condition. -/
import Derived.Test.YtaecngdabgnamaaRows
import Derived.Test.YtaecngdabgnamaaTableOf
import Derived.WalkKit
import Derived.ProofKit
import Derived.OpenShut
import Derived.ShutString
import Derived.ChangeOld
import Derived.SizedLaws
import Derived.Lib.SmallJoins
namespace Go.Proofs.Ytaecngdabgnamaa.tableOf
open Go.ChangeShapes Go.WideShapes Go.ChangeAt Go.RowKit Go.Deep Go.Proofs.YtaecngdabgnamaaW.PrintWords OpenArg Base RFreq TableOf
open Go.ChangeMaps (open_string shut_string)
set_option linter.unusedVariables false
theorem own : ownKnob Try.prog.godebug = none := by kernel_rfl
theorem laidOut : laidOutB Try.prog = true := by kernel_rfl
set_option maxRecDepth 100000 in
theorem lifted (os : Os) (started : os.Started) (H : Type) (enc : TypeId × Value → H) :
    ReturnsInHanded {} Try.checked os 10 .any (Rows.tableOfSpec.pre6 enc Try.prog Try.f10 Rows.tableOfRow.domain false) (Rows.tableOfSpec.post enc Try.prog Try.f10 false true false false) := by
  refine returnsInHanded_of_change_sized (C := Try.checked) own started (by kernel_rfl) Try.func10
    (ChangeSpec.witness6 (enc := enc) (C := Try.checked) false ⟨#[], #[.slice none 0 0, .agg #[.int .i64 0, .int .i64 0, .int .i64 0]], []⟩ 8 (by kernel_rfl) (by kernel_rfl) (by kernel_rfl) (by kernel_rfl)) ?_
  intro W base args ds gs before hval0 hW hcnd hsz0 _
  have hsz : (DataW.weightsEach Try.prog (Try.f10.params.toList ++ Rows.tableOfSpec.plain.varTypes Try.prog) (ds ++ gs)).all (· ≤ reachBytes) = true := hsz0
  have hval : ∀ (j : Nat) t v, Try.f10.params[j]? = some t → args[j]? = some v → Value.okWide Try.prog W .any base t v := hval0
  have hW' := hW
  obtain ⟨p, q, hA0, hV, rfl, hfz, hnd⟩ := hW
  have hA : DataW.TrodAll enc Try.prog W 0 (fun _ => true) true Try.f10.params.toList args.toList ds p := hA0
  rw [Try.params10] at hA hval hsz
  obtain ⟨v0, vs0, d0, ds0, p0, q0, hargs, rfl, rfl, h0, r0⟩ := trodAll_cons hA
  obtain ⟨v1, vs1, d1, ds1, p1, q1, rfl, rfl, rfl, h1, r1⟩ := trodAll_cons r0
  obtain ⟨rfl, rfl, rfl⟩ := trodAll_nil r1
  obtain rfl : args = #[v0, v1] := by cases args; simp_all
  obtain ⟨rfl, rfl⟩ := trodVars_none hV
  obtain ⟨A0, len0, cap0, rfl⟩ := okWide_slice Try.underlying71 (hval 0 71 v0 rfl rfl)
  have k0 := h0
  have lt0 : ∀ x ∈ p0, x.block < W.heap.size := by obtain ⟨m, hm⟩ := k0; exact DataW.trod_lt m _ _ _ hm
  obtain ⟨l0, hl0, hc0, hr0, hg0, hs0⟩ : ∃ l, l.length = len0 ∧ l.length ≤ cap0 ∧ Kd.C Kd.string W A0 l.length l ∧ (∀ a ∈ l, (fun (a : ByteArray) => a.size ≤ maxLen) a) ∧ l.length * Try.prog.bytesOf 9 ≤ reachBytes := by
    obtain ⟨fuel, hf⟩ := h0
    obtain ⟨A', l, cap', hcs, hlc, hcm, hC, hG, hL⟩ := open_row Kd.string (fun (a : ByteArray) => a.size ≤ maxLen) Try.underlying71 (by kernel_rfl) (fun n cs y hy => dec_Str n cs y hy) hf
    have hR := row_reach hsz (j := 0) (t := 71) rfl rfl Try.underlying71 hL
    simp [Value.cells] at hcs
    obtain ⟨rfl, rfl, rfl⟩ := hcs
    exact ⟨l, rfl, hlc, hC, hG, hR⟩
  subst hl0
  have b0 : Try.prog.bytesOf 9 = 16 := by kernel_rfl
  rw [b0] at hs0
  have k1 := h1
  have lt1 : ∀ x ∈ p1, x.block < W.heap.size := by obtain ⟨m, hm⟩ := k1; exact DataW.trod_lt m _ _ _ hm
  obtain ⟨a1, rfl, w1⟩ := agg_Params (hval 1 73 v1 rfl rfl) h1
  clear hA0 hval0 hsz0 hsz
  refine (walk W A0 cap0 l0 hr0 hc0 hg0 hs0 a1 w1).mono fun e W' ⟨he, bel⟩ => ?_
  subst he
  exact ⟨_, rfl, _, _, _, [], _, [], hW', trodAll_mk1 (shut_bool Try.underlying4 _), (trodAll_cons_mk (Below.trod laidOut (by kernel_rfl) (of_decide_eq_true (by kernel_rfl)) k0 bel lt0) (trodAll_cons_mk (Below.trod laidOut (by kernel_rfl) (of_decide_eq_true (by kernel_rfl)) k1 bel lt1) trodAll_mk0)), rfl, bel.frame _, fun h => by cases h⟩
theorem over : Rows.tableOfRow.holds Try.pinned (OpenSpec.ofChange Rows.tableOfSpec) :=
  OpenClaim.holds_of_wide 10 Try.f10 rfl rfl rfl rfl rfl rfl rfl ⟨rfl, rfl, rfl, rfl, rfl⟩ rfl rfl rfl rfl rfl (by kernel_rfl) Try.func10 (by kernel_rfl)
    (of_decide_eq_true (by kernel_rfl)) (by unfold Func.isWrapper; first | (rw [if_pos (by decide +kernel)]; kernel_rfl) | (rw [if_neg (by decide +kernel)]; exact ⟨rfl, rfl⟩))
    (fun os started H enc _ => lifted os started H enc)
theorem proved : Rows.TableOfSaid := over
end Go.Proofs.Ytaecngdabgnamaa.tableOf
namespace Go.Proofs.Ytaecngdabgnamaa
/-- The row, under a short name, for the claim. -/
theorem tableOf_holds : Rows.TableOfSaid := tableOf.proved
#print axioms tableOf_holds
end Go.Proofs.Ytaecngdabgnamaa
