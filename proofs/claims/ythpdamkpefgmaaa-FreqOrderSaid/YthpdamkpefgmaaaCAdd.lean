/- Sums that are looked at (layer 6), and the document's, walked. -/
import Derived.Test.YthpdamkpefgmaaaBase
import Derived.Test.YthpdamkpefgmaaaWMore
import Derived.IntWalk
namespace Go.Proofs.Ythpdamkpefgmaaa.CAdd
open Go.RowKit Go.Proofs.YthpdamkpefgmaaaW.PrintWords Go.Proofs.YthpdamkpefgmaaaW.PrintLast Go.Proofs.YthpdamkpefgmaaaW.PrintMore Base
set_option linter.unusedVariables false
set_option linter.unusedSimpArgs false
def addS (a b : Int) : Int × Bool := if 0 ≤ a ∧ 0 ≤ b ∧ a + b ≤ 9223372036854775807 then (a + b, true) else (0, false)
set_option maxHeartbeats 400000 in
theorem radd_any (a b : Int) (w : World) (ha : In64 a) (hb : In64 b) :
    Calls Try.prog 59 #[.int .i64 a, .int .i64 b] w fun e w' => e = .returned (.tuple #[.int .i64 (addS a b).1, .bool (addS a b).2]) ∧ w = w' := by
  obtain ⟨ha1, ha2⟩ := ha
  obtain ⟨hb1, hb2⟩ := hb
  unfold addS
  by_cases h1 : a < 0
  · rw [if_neg (by omega)]
    go_enter Try.func59, Try.ntmps59
    go_wp2
    go_ret2
    exact ⟨rfl, rfl⟩
  · by_cases h2 : b < 0
    · rw [if_neg (by omega)]
      go_enter Try.func59, Try.ntmps59
      go_wp2
      go_ret2
      exact ⟨rfl, rfl⟩
    · by_cases h3 : a + b ≤ 9223372036854775807
      · rw [if_pos ⟨by omega, by omega, h3⟩]
        go_enter Try.func59, Try.ntmps59
        go_wp2
        go_ret2
        exact ⟨rfl, rfl⟩
      · rw [if_neg (by omega)]
        obtain ⟨c, hc⟩ : ∃ c, wrap64 (a + b) = c := ⟨_, rfl⟩
        have hc2 : c < 0 := by rw [← hc]; unfold wrap64; omega
        go_enter Try.func59, Try.ntmps59
        go_wp2
        all_goals first
          | (go_ret2; exact ⟨rfl, rfl⟩)
          | (exfalso; omega)
set_option maxHeartbeats 400000 in
theorem within_any (a : Int) (w : World) : Calls Try.prog 93 #[.int .i64 a] w fun e w' => e = .returned (.bool (decide (0 ≤ a))) ∧ w = w' := by
  go_enter Try.func93, Try.ntmps93
  go_wp2
  go_ret
  exact ⟨rfl, rfl⟩
set_option maxHeartbeats 400000 in
theorem add_any (a b : Int) (w : World) (ha : In64 a) (hb : In64 b) :
    Calls Try.prog 73 #[.int .i64 a, .int .i64 b] w fun e w' => e = .returned (.tuple #[.int .i64 (addS a b).1, .bool (addS a b).2]) ∧ w = w' := by
  obtain ⟨ha1, ha2⟩ := ha
  obtain ⟨hb1, hb2⟩ := hb
  unfold addS
  by_cases h1 : a < 0
  · rw [if_neg (by omega)]
    have e1 : decide (0 ≤ a) = false := by simpa using h1
    go_enter Try.func73, Try.ntmps73
    go_wp2_with (go_at_call 93; refine (within_any _ _).mono ?_; rintro e w' ⟨rfl, rfl⟩)
    go_ret2
    exact ⟨rfl, rfl⟩
  · have e1 : decide (0 ≤ a) = true := by simp; omega
    by_cases h2 : b < 0
    · rw [if_neg (by omega)]
      have e2 : decide (0 ≤ b) = false := by simpa using h2
      go_enter Try.func73, Try.ntmps73
      go_wp2_with (go_at_call 93; refine (within_any _ _).mono ?_; rintro e w' ⟨rfl, rfl⟩)
      go_ret2
      exact ⟨rfl, rfl⟩
    · have e2 : decide (0 ≤ b) = true := by simp; omega
      by_cases h3 : a + b ≤ 9223372036854775807
      · rw [if_pos ⟨by omega, by omega, h3⟩]
        have h4 : ¬ 9223372036854775807 - b < a := by omega
        go_enter Try.func73, Try.ntmps73
        go_wp2_with (go_at_call 93; refine (within_any _ _).mono ?_; rintro e w' ⟨rfl, rfl⟩)
        go_ret2
        exact ⟨rfl, rfl⟩
      · rw [if_neg (by omega)]
        have h4 : 9223372036854775807 - b < a := by omega
        go_enter Try.func73, Try.ntmps73
        go_wp2_with (go_at_call 93; refine (within_any _ _).mono ?_; rintro e w' ⟨rfl, rfl⟩)
        go_ret2
        exact ⟨rfl, rfl⟩
theorem addS_yes {a b : Int} (h : 0 ≤ a ∧ 0 ≤ b ∧ a + b ≤ 9223372036854775807) : addS a b = (a + b, true) := if_pos h
theorem addS_no {a b : Int} (h : ¬ (0 ≤ a ∧ 0 ≤ b ∧ a + b ≤ 9223372036854775807)) : addS a b = (0, false) := if_neg h
end Go.Proofs.Ythpdamkpefgmaaa.CAdd
