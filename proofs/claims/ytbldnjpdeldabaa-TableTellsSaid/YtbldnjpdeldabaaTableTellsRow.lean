/- TableTells, the row: of any table of words whether it is right, and where not, its weight and its positions, are what the reference says. No condition. -/
import Derived.Test.YtbldnjpdeldabaaRows
import Derived.Test.YtbldnjpdeldabaaTableTells
import Derived.Test.YtbldnjpdeldabaaOpen
import Derived.WalkKit
import Derived.ProofKit
import Derived.OpenShut
import Derived.ShutString
import Derived.ChangeOld
import Derived.SizedLaws
import Derived.Lib.SmallJoins
namespace Go.Proofs.Ytbldnjpdeldabaa.tableTells
open Go.ChangeShapes Go.WideShapes Go.ChangeAt Go.RowKit Go.Deep Go.Proofs.YtbldnjpdeldabaaW.PrintWords OpenArg Base PTableTells TableMath TableTells
open Go.ChangeMaps (open_string shut_string)
set_option linter.unusedVariables false
theorem own : ownKnob Try.prog.godebug = none := by kernel_rfl
theorem laidOut : laidOutB Try.prog = true := by kernel_rfl
set_option maxRecDepth 100000 in
theorem dec79 {H : Type} {enc : TypeId × Value → H} {w : World} {base : Nat} {spare : Nat → Bool} {held : Bool} (n : Nat) (cs : List Value) (y : DataW H × List MemPlace) (h : DataW.trod enc Try.prog w base spare held n 79 cs = some y) : ∃ a : S79, k79.K w a cs ∧ In64 a.f1 := by
  obtain ⟨y0, y1, m, _, hl, h0, h1⟩ := trod_struct2 Try.underlying79 h
  have hl2 : cs.length = 2 := hl.trans (by kernel_rfl)
  obtain ⟨s, e0, _, _⟩ := DataW.trod_string Try.underlying9 h0
  obtain ⟨k, e1, _, w1⟩ := DataW.trod_int Try.underlying3 h1
  have c9 : Try.prog.cellsOf 9 = 1 := by kernel_rfl
  have c3 : Try.prog.cellsOf 3 = 1 := by kernel_rfl
  match cs, hl2 with
  | [c0, c1], _ =>
    simp [c9] at e0
    simp [c3] at e1
    subst e0 e1
    exact ⟨⟨s, k⟩, k79_mk w ⟨s, k⟩, wf_in w1⟩
set_option maxRecDepth 100000 in
theorem lifted (os : Os) (started : os.Started) (H : Type) (enc : TypeId × Value → H) :
    ReturnsInHanded {} Try.checked os 7 .any (Rows.tableTellsSpec.pre6 enc Try.prog Try.f7 Rows.tableTellsRow.domain false) (Rows.tableTellsSpec.post enc Try.prog Try.f7 false true false false) := by
  refine returnsInHanded_of_change_sized (C := Try.checked) own started (by kernel_rfl) Try.func7
    (ChangeSpec.witness6 (enc := enc) (C := Try.checked) false ⟨#[], #[.slice none 0 0], []⟩ 8 (by kernel_rfl) (by kernel_rfl) (by kernel_rfl) (by kernel_rfl)) ?_
  intro W base args ds gs before hval0 hW hcnd hsz0 _
  have hsz : (DataW.weightsEach Try.prog (Try.f7.params.toList ++ Rows.tableTellsSpec.plain.varTypes Try.prog) (ds ++ gs)).all (· ≤ reachBytes) = true := hsz0
  have hval : ∀ (j : Nat) t v, Try.f7.params[j]? = some t → args[j]? = some v → Value.okWide Try.prog W .any base t v := hval0
  have hW' := hW
  obtain ⟨p, q, hA0, hV, rfl, hfz, hnd⟩ := hW
  have hA : DataW.TrodAll enc Try.prog W 0 (fun _ => true) true Try.f7.params.toList args.toList ds p := hA0
  rw [Try.params7] at hA hval hsz
  obtain ⟨v0, vs0, d0, ds0, p0, q0, hargs, rfl, rfl, h0, r0⟩ := trodAll_cons hA
  obtain ⟨rfl, rfl, rfl⟩ := trodAll_nil r0
  obtain rfl : args = #[v0] := by cases args; simp_all
  obtain ⟨rfl, rfl⟩ := trodVars_none hV
  obtain ⟨A0, len0, cap0, rfl⟩ := okWide_slice Try.underlying70 (hval 0 70 v0 rfl rfl)
  have k0 := h0
  have lt0 : ∀ x ∈ p0, x.block < W.heap.size := by obtain ⟨m, hm⟩ := k0; exact DataW.trod_lt m _ _ _ hm
  obtain ⟨l0, hl0, hc0, hr0, hg0, hs0⟩ : ∃ l, l.length = len0 ∧ l.length ≤ cap0 ∧ Kd.C k79 W A0 l.length l ∧ (∀ a ∈ l, (fun (a : S79) => In64 a.f1) a) ∧ l.length * Try.prog.bytesOf 79 ≤ reachBytes := by
    obtain ⟨fuel, hf⟩ := h0
    obtain ⟨A', l, cap', hcs, hlc, hcm, hC, hG, hL⟩ := open_row k79 (fun (a : S79) => In64 a.f1) Try.underlying70 (by kernel_rfl) (fun n cs y hy => dec79 n cs y hy) hf
    have hR := row_reach hsz (j := 0) (t := 70) rfl rfl Try.underlying70 hL
    simp [Value.cells] at hcs
    obtain ⟨rfl, rfl, rfl⟩ := hcs
    exact ⟨l, rfl, hlc, hC, hG, hR⟩
  subst hl0
  have b0 : Try.prog.bytesOf 79 = 24 := by kernel_rfl
  rw [b0] at hs0
  clear hA0 hval0 hsz0 hsz
  refine (walk W A0 cap0 l0 hr0 hc0 hg0 hs0).mono fun e W' ⟨he, bel⟩ => ?_
  subst he
  exact ⟨_, rfl, _, _, _, [], _, [], hW', trodAll_mk1 (shut_bool Try.underlying4 _), (trodAll_cons_mk (Below.trod laidOut (by kernel_rfl) (of_decide_eq_true (by kernel_rfl)) k0 bel lt0) trodAll_mk0), rfl, bel.frame _, fun h => by cases h⟩
theorem over : Rows.tableTellsRow.holds Try.pinned (OpenSpec.ofChange Rows.tableTellsSpec) :=
  OpenClaim.holds_of_wide 7 Try.f7 rfl rfl rfl rfl rfl rfl rfl ⟨rfl, rfl, rfl, rfl, rfl⟩ rfl rfl rfl rfl rfl (by kernel_rfl) Try.func7 (by kernel_rfl)
    (of_decide_eq_true (by kernel_rfl)) (by unfold Func.isWrapper; first | (rw [if_pos (by decide +kernel)]; kernel_rfl) | (rw [if_neg (by decide +kernel)]; exact ⟨rfl, rfl⟩))
    (fun os started H enc _ => lifted os started H enc)
theorem proved : Rows.TableTellsSaid := over
end Go.Proofs.Ytbldnjpdeldabaa.tableTells
namespace Go.Proofs.Ytbldnjpdeldabaa
/-- The row, under a short name, for the claim. -/
theorem tableTells_holds : Rows.TableTellsSaid := tableTells.proved
#print axioms tableTells_holds
end Go.Proofs.Ytbldnjpdeldabaa
