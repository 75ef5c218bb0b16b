/- Sums and products that are looked at (layer 6), the document's, and a count that is changed (layer 12), walked. -/
import Derived.Test.YtaecngdabgnamaaBase
import Derived.Test.YtaecngdabgnamaaWMore
import Derived.Test.YtaecngdabgnamaaShelfM
import Derived.Laws.MathBits
import Derived.IntWalk
namespace Go.Proofs.Ytaecngdabgnamaa.DMath
open Go.RowKit Go.Proofs.YtaecngdabgnamaaW.PrintWords Go.Proofs.YtaecngdabgnamaaW.PrintLast Go.Proofs.YtaecngdabgnamaaW.PrintMore Base
set_option linter.unusedVariables false
set_option linter.unusedSimpArgs false

def mulS (a b : Int) : Int × Bool := if 0 ≤ a ∧ 0 ≤ b ∧ a * b ≤ 9223372036854775807 then (a * b, true) else (0, false)
def addS (a b : Int) : Int × Bool := if 0 ≤ a ∧ 0 ≤ b ∧ a + b ≤ 9223372036854775807 then (a + b, true) else (0, false)
theorem mulS_in (a b : Int) : 0 ≤ (mulS a b).1 ∧ (mulS a b).1 ≤ 9223372036854775807 := by
  unfold mulS
  split
  · rename_i h
    exact ⟨Int.mul_nonneg h.1 h.2.1, h.2.2⟩
  · exact ⟨by decide, by decide⟩

set_option maxHeartbeats 400000 in
theorem rmul_neg (a b : Int) (w : World) (h : a < 0) :
    Calls Try.prog 45 #[.int .i64 a, .int .i64 b] w fun e w' => e = .returned (.tuple #[.int .i64 0, .bool false]) ∧ w = w' := by
  go_enter Try.func45, Try.ntmps45
  go_wp2
  go_ret2
  exact ⟨rfl, rfl⟩
set_option maxHeartbeats 400000 in
theorem rmul_neg2 (a b : Int) (w : World) (h : 0 ≤ a) (hb : b < 0) :
    Calls Try.prog 45 #[.int .i64 a, .int .i64 b] w fun e w' => e = .returned (.tuple #[.int .i64 0, .bool false]) ∧ w = w' := by
  go_enter Try.func45, Try.ntmps45
  go_wp2
  go_ret2
  exact ⟨rfl, rfl⟩
set_option maxHeartbeats 400000 in
theorem rmul_zero (a : Int) (w : World) (h : 0 ≤ a) :
    Calls Try.prog 45 #[.int .i64 a, .int .i64 0] w fun e w' => e = .returned (.tuple #[.int .i64 0, .bool true]) ∧ w = w' := by
  go_enter Try.func45, Try.ntmps45
  go_wp2
  go_ret2
  exact ⟨by simp, rfl⟩
set_option maxHeartbeats 400000 in
theorem rmul_pos (a b : Int) (w : World) (h : 0 ≤ a) (hb : 0 < b) (hle : a ≤ 9223372036854775807 / b) :
    Calls Try.prog 45 #[.int .i64 a, .int .i64 b] w fun e w' => e = .returned (.tuple #[.int .i64 (wrap64 (a * b)), .bool true]) ∧ w = w' := by
  go_enter Try.func45, Try.ntmps45
  go_wp2
  go_ret2
  exact ⟨rfl, rfl⟩
set_option maxHeartbeats 400000 in
theorem rmul_big (a b : Int) (w : World) (h : 0 ≤ a) (hb : 0 < b) (hle : 9223372036854775807 / b < a) :
    Calls Try.prog 45 #[.int .i64 a, .int .i64 b] w fun e w' => e = .returned (.tuple #[.int .i64 0, .bool false]) ∧ w = w' := by
  go_enter Try.func45, Try.ntmps45
  go_wp2
  go_ret2
  exact ⟨rfl, rfl⟩
theorem rmul_any (a b : Int) (w : World) (ha : In64 a) (hb : In64 b) :
    Calls Try.prog 45 #[.int .i64 a, .int .i64 b] w fun e w' => e = .returned (.tuple #[.int .i64 (mulS a b).1, .bool (mulS a b).2]) ∧ w = w' := by
  obtain ⟨ha1, ha2⟩ := ha
  obtain ⟨hb1, hb2⟩ := hb
  unfold mulS
  by_cases h1 : a < 0
  · rw [if_neg (by omega)]; exact rmul_neg a b w h1
  · by_cases h2 : b < 0
    · rw [if_neg (by omega)]; exact rmul_neg2 a b w (by omega) h2
    · by_cases h3 : b = 0
      · subst h3
        rw [if_pos ⟨by omega, by omega, by simp⟩]
        simpa using rmul_zero a w (by omega)
      · have h3' : 0 < b := by omega
        have hp : 0 ≤ a * b := Int.mul_nonneg (by omega) (by omega)
        have hq : 0 ≤ (9223372036854775807 : Int) / b := Int.ediv_nonneg (by omega) (by omega)
        have hq2 : (9223372036854775807 : Int) / b ≤ 9223372036854775807 := Int.ediv_le_self _ (by omega)
        have key : (a ≤ (9223372036854775807 : Int) / b) ↔ a * b ≤ 9223372036854775807 := Int.le_ediv_iff_mul_le h3'
        by_cases h4 : a * b ≤ 9223372036854775807
        · have hw : wrap64 (a * b) = a * b := by unfold wrap64; omega
          rw [if_pos ⟨by omega, by omega, h4⟩]
          have := rmul_pos a b w (by omega) h3' (key.2 h4)
          rwa [hw] at this
        · rw [if_neg (fun h => h4 h.2.2)]
          exact rmul_big a b w (by omega) h3' (by have := mt key.1 h4; omega)
set_option maxHeartbeats 400000 in
theorem radd_any (a b : Int) (w : World) (ha : In64 a) (hb : In64 b) :
    Calls Try.prog 46 #[.int .i64 a, .int .i64 b] w fun e w' => e = .returned (.tuple #[.int .i64 (addS a b).1, .bool (addS a b).2]) ∧ w = w' := by
  obtain ⟨ha1, ha2⟩ := ha
  obtain ⟨hb1, hb2⟩ := hb
  unfold addS
  by_cases h1 : a < 0
  · rw [if_neg (by omega)]
    go_enter Try.func46, Try.ntmps46
    go_wp2
    go_ret2
    exact ⟨rfl, rfl⟩
  · by_cases h2 : b < 0
    · rw [if_neg (by omega)]
      go_enter Try.func46, Try.ntmps46
      go_wp2
      go_ret2
      exact ⟨rfl, rfl⟩
    · by_cases h3 : a + b ≤ 9223372036854775807
      · rw [if_pos ⟨by omega, by omega, h3⟩]
        go_enter Try.func46, Try.ntmps46
        go_wp2
        go_ret2
        exact ⟨rfl, rfl⟩
      · rw [if_neg (by omega)]
        obtain ⟨c, hc⟩ : ∃ c, wrap64 (a + b) = c := ⟨_, rfl⟩
        have hc2 : c < 0 := by rw [← hc]; unfold wrap64; omega
        go_enter Try.func46, Try.ntmps46
        go_wp2
        all_goals first
          | (go_ret2; exact ⟨rfl, rfl⟩)
          | (exfalso; omega)
set_option maxHeartbeats 400000 in
theorem within_any (a : Int) (w : World) : Calls Try.prog 81 #[.int .i64 a] w fun e w' => e = .returned (.bool (decide (0 ≤ a))) ∧ w = w' := by
  go_enter Try.func81, Try.ntmps81
  go_wp2
  go_ret
  exact ⟨rfl, rfl⟩
set_option maxHeartbeats 400000 in
theorem add_any (a b : Int) (w : World) (ha : In64 a) (hb : In64 b) :
    Calls Try.prog 67 #[.int .i64 a, .int .i64 b] w fun e w' => e = .returned (.tuple #[.int .i64 (addS a b).1, .bool (addS a b).2]) ∧ w = w' := by
  obtain ⟨ha1, ha2⟩ := ha
  obtain ⟨hb1, hb2⟩ := hb
  unfold addS
  by_cases h1 : a < 0
  · rw [if_neg (by omega)]
    have e1 : decide (0 ≤ a) = false := by simpa using h1
    go_enter Try.func67, Try.ntmps67
    go_wp2_with (go_at_call 81; refine (within_any _ _).mono ?_; rintro e w' ⟨rfl, rfl⟩)
    go_ret2
    exact ⟨rfl, rfl⟩
  · have e1 : decide (0 ≤ a) = true := by simp; omega
    by_cases h2 : b < 0
    · rw [if_neg (by omega)]
      have e2 : decide (0 ≤ b) = false := by simpa using h2
      go_enter Try.func67, Try.ntmps67
      go_wp2_with (go_at_call 81; refine (within_any _ _).mono ?_; rintro e w' ⟨rfl, rfl⟩)
      go_ret2
      exact ⟨rfl, rfl⟩
    · have e2 : decide (0 ≤ b) = true := by simp; omega
      by_cases h3 : a + b ≤ 9223372036854775807
      · rw [if_pos ⟨by omega, by omega, h3⟩]
        have h4 : ¬ 9223372036854775807 - b < a := by omega
        go_enter Try.func67, Try.ntmps67
        go_wp2_with (go_at_call 81; refine (within_any _ _).mono ?_; rintro e w' ⟨rfl, rfl⟩)
        go_ret2
        exact ⟨rfl, rfl⟩
      · rw [if_neg (by omega)]
        have h4 : 9223372036854775807 - b < a := by omega
        go_enter Try.func67, Try.ntmps67
        go_wp2_with (go_at_call 81; refine (within_any _ _).mono ?_; rintro e w' ⟨rfl, rfl⟩)
        go_ret2
        exact ⟨rfl, rfl⟩
set_option maxHeartbeats 800000 in
theorem mul_any (a b : Int) (w : World) (ha : In64 a) (hb : In64 b) :
    Calls Try.prog 66 #[.int .i64 a, .int .i64 b] w fun e w' => e = .returned (.tuple #[.int .i64 (mulS a b).1, .bool (mulS a b).2]) ∧ w = w' := by
  obtain ⟨ha1, ha2⟩ := ha
  obtain ⟨hb1, hb2⟩ := hb
  unfold mulS
  by_cases h1 : a < 0
  · rw [if_neg (by omega)]
    have e1 : decide (0 ≤ a) = false := by simpa using h1
    go_enter Try.func66, Try.ntmps66
    go_wp2_with (go_at_call 81; refine (within_any _ _).mono ?_; rintro e w' ⟨rfl, rfl⟩)
    go_ret2
    exact ⟨rfl, rfl⟩
  · have e1 : decide (0 ≤ a) = true := by simp; omega
    by_cases h2 : b < 0
    · rw [if_neg (by omega)]
      have e2 : decide (0 ≤ b) = false := by simpa using h2
      go_enter Try.func66, Try.ntmps66
      go_wp2_with (go_at_call 81; refine (within_any _ _).mono ?_; rintro e w' ⟨rfl, rfl⟩)
      go_ret2
      exact ⟨rfl, rfl⟩
    · have e2 : decide (0 ≤ b) = true := by simp; omega
      obtain ⟨x, rfl⟩ := Int.eq_ofNat_of_zero_le (show 0 ≤ a by omega)
      obtain ⟨y, rfl⟩ := Int.eq_ofNat_of_zero_le (show 0 ≤ b by omega)
      have hcv : ∀ (x : Nat), (x : Int) ≤ 9223372036854775807 → IntKind.u64.wrap (x : Int) = (x : Int) := fun x hx => by simp [IntKind.wrap, IntKind.bits, IntKind.signed]; omega
      have hmul := Try.bits_Mul64 x y (by omega) (by omega)
      have hx := hcv x (by omega)
      have hy := hcv y (by omega)
      have hxy : ((x * y : Nat) : Int) = (x : Int) * (y : Int) := Int.natCast_mul x y
      rw [← hxy]
      by_cases h3 : x * y ≤ 9223372036854775807
      · rw [if_pos ⟨by omega, by omega, by omega⟩]
        have e3 : x * y / 18446744073709551616 = 0 := by omega
        have e4 : x * y % 18446744073709551616 = x * y := by omega
        rw [e3, e4] at hmul
        have hw : IntKind.i64.wrap ((x * y : Nat) : Int) = ((x * y : Nat) : Int) := IntWalk.i64_in _ (by omega)
        have h5 : ¬ (9223372036854775807 : Int) < ((x * y : Nat) : Int) := by omega
        clear hxy e3 e4
        generalize x * y = z at *
        go_enter Try.func66, Try.ntmps66
        go_wp2_with (first | (go_at_call 81; refine (within_any _ _).mono ?_; rintro e w' ⟨rfl, rfl⟩) | (go_at_call 82; refine (hmul _).mono ?_; rintro e w' ⟨rfl, rfl⟩))
        go_ret2
        exact ⟨rfl, rfl⟩
      · rw [if_neg (by omega)]
        by_cases h4 : x * y / 18446744073709551616 = 0
        · have h5 : (9223372036854775807 : Int) < ((x * y % 18446744073709551616 : Nat) : Int) := by omega
          rw [h4] at hmul
          clear hxy
          generalize x * y % 18446744073709551616 = z at *
          go_enter Try.func66, Try.ntmps66
          go_wp2_with (first | (go_at_call 81; refine (within_any _ _).mono ?_; rintro e w' ⟨rfl, rfl⟩) | (go_at_call 82; refine (hmul _).mono ?_; rintro e w' ⟨rfl, rfl⟩))
          go_ret2
          exact ⟨rfl, rfl⟩
        · have h5 : (((x * y / 18446744073709551616 : Nat) : Int) == 0) = false := by rw [beq_eq_false_iff_ne]; omega
          clear hxy
          generalize x * y % 18446744073709551616 = z at *
          generalize x * y / 18446744073709551616 = q at *
          go_enter Try.func66, Try.ntmps66
          go_wp2_with (first | (go_at_call 81; refine (within_any _ _).mono ?_; rintro e w' ⟨rfl, rfl⟩) | (go_at_call 82; refine (hmul _).mono ?_; rintro e w' ⟨rfl, rfl⟩))
          go_ret2
          exact ⟨rfl, rfl⟩
end Go.Proofs.Ytaecngdabgnamaa.DMath
