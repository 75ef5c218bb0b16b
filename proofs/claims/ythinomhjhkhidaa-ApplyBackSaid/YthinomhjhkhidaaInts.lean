/- Two slices of the same whole numbers are the same. -/
import Derived.Test.YthinomhjhkhidaaSrc
import Derived.Deep.RegionHeld3
namespace Go.Proofs.Ythinomhjhkhidaa.Ints
open Go.RowKit Base Foot Src
set_option linter.unusedVariables false
set_option maxHeartbeats 800000 in
set_option maxRecDepth 100000 in
theorem ints_yes (A A' : Option Addr) (c c' : Nat) (l : List Int) (w : World) (h : Src w 1 A l.length (l.map (Value.int .i64))) (h' : Src w 1 A' l.length (l.map (Value.int .i64))) (hl : l.length ≤ 1000000) :
    Calls Try.prog 36 #[.slice A l.length c, .slice A' l.length c'] w fun e w' => e = .returned (.bool true) ∧ Below w.heap.size w w' := by
  go_enter Try.func36, Try.ntmps36
  go_wp2_with fail
  go_loopw [5] (fun v5 wr => ∃ (k n : Nat), k ≤ l.length ∧ v5 = .int .i64 (k : Int) ∧ wr = w.drewN n) (fun i _ => l.length - (intOf i).toNat)
  case atStart => exact ⟨0, 0, by omega, rfl, rfl⟩
  case round =>
    obtain ⟨k, n, hk, rfl, rfl⟩ := hrel
    by_cases hlt : k < l.length
    · have hx : (l.map (Value.int .i64))[k]? = some (.int .i64 l[k]) := by simp [hlt]
      obtain ⟨ad, e, p0⟩ := h.2 (by omega)
      cases e
      obtain ⟨ad', e, q0⟩ := h'.2 (by omega)
      cases e
      replace p0 := p0 k _ hx
      replace q0 := q0 k _ hx
      clear hx
      generalize l[k] = x at *
      have hk0 : (0 : Int) ≤ (k : Int) := by omega
      have hk1 : (k : Int) < (l.length : Int) := by omega
      go_wp2_with fail
      go_quiet (fail)
      go_wp2_with fail
      go_roundw
      case rel => exact ⟨k + 1, _, by omega, by go_num, rfl⟩
      case measure => simp [intOf]; omega
    · go_wp2_with fail
      go_ret
      exact ⟨rfl, bdrew _ _ _⟩
end Go.Proofs.Ythinomhjhkhidaa.Ints
