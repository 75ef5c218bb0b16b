/- delta.sum: a count that is changed, walked. -/
import Derived.Test.YtaecngdabgnamaaDMath
namespace Go.Proofs.Ytaecngdabgnamaa.DMath
open Go.RowKit Go.Proofs.YtaecngdabgnamaaW.PrintWords Go.Proofs.YtaecngdabgnamaaW.PrintLast Go.Proofs.YtaecngdabgnamaaW.PrintMore Base
set_option linter.unusedVariables false
set_option linter.unusedSimpArgs false
attribute [local go_sem] max2_int max_two

def sumD (n b t : Int) : Option Int := if b ≠ -9223372036854775808 ∧ 0 ≤ n + b * t ∧ n + b * t ≤ 9223372036854775807 then some (n + b * t) else none
theorem mulS_yes {a b : Int} (h : 0 ≤ a ∧ 0 ≤ b ∧ a * b ≤ 9223372036854775807) : mulS a b = (a * b, true) := if_pos h
theorem mulS_no {a b : Int} (h : ¬ (0 ≤ a ∧ 0 ≤ b ∧ a * b ≤ 9223372036854775807)) : mulS a b = (0, false) := if_neg h
theorem addS_yes {a b : Int} (h : 0 ≤ a ∧ 0 ≤ b ∧ a + b ≤ 9223372036854775807) : addS a b = (a + b, true) := if_pos h
theorem addS_no {a b : Int} (h : ¬ (0 ≤ a ∧ 0 ≤ b ∧ a + b ≤ 9223372036854775807)) : addS a b = (0, false) := if_neg h
set_option maxHeartbeats 800000 in
theorem sum_yes (n b t r : Int) (w : World) (hn : 0 ≤ n ∧ n ≤ 9223372036854775807) (hb : In64 b) (ht : 0 ≤ t ∧ t ≤ 9223372036854775807) (h : sumD n b t = some r) :
    Calls Try.prog 44 #[.int .i64 n, .int .i64 b, .int .i64 t] w fun e w' => e = .returned (.tuple #[.int .i64 r, .bool true]) ∧ w = w' := by
  obtain ⟨hn1, hn2⟩ := hn
  obtain ⟨hb1, hb2⟩ := hb
  obtain ⟨ht1, ht2⟩ := ht
  unfold sumD at h
  split at h
  · rename_i hc
    obtain ⟨c1, c2, c3⟩ := hc
    have hr : n + b * t = r := by simpa using h
    by_cases h0 : 0 ≤ b
    · have hp : 0 ≤ b * t := Int.mul_nonneg h0 ht1
      have hm := mul_any b t w ⟨hb1, hb2⟩ ⟨by omega, ht2⟩
      rw [mulS_yes ⟨h0, ht1, by omega⟩] at hm
      have ha := add_any n (b * t) w ⟨by omega, hn2⟩ ⟨by omega, by omega⟩
      rw [addS_yes ⟨hn1, hp, c3⟩, hr] at ha
      have hlt : ¬ b < -b := by omega
      have hbm : (b == -9223372036854775808) = false := by rw [beq_eq_false_iff_ne]; omega
      have hn0 : ¬ b < 0 := by omega
      simp only at hm ha
      clear hr h c2 c3
      generalize b * t = d at *
      go_enter Try.func44, Try.ntmps44
      go_wp2_with fail
      refine hm.mono ?_
      rintro e w' ⟨rfl, rfl⟩
      go_wp2_with fail
      refine ha.mono ?_
      rintro e w' ⟨rfl, rfl⟩
      go_wp2_with fail
      go_ret2
      exact ⟨rfl, rfl⟩
    · have hp : 0 ≤ -b * t := Int.mul_nonneg (by omega) ht1
      have hneg : -b * t = -(b * t) := Int.neg_mul b t
      have hm := mul_any (-b) t w ⟨by omega, by omega⟩ ⟨by omega, ht2⟩
      rw [mulS_yes ⟨by omega, ht1, by omega⟩] at hm
      have hlt : b < -b := by omega
      have hbm : (b == -9223372036854775808) = false := by rw [beq_eq_false_iff_ne]; omega
      have hn0 : b < 0 := by omega
      simp only at hm
      have hr2 : n - (-b * t) = r := by omega
      have hge : -b * t ≤ n := by omega
      have hbl : -9223372036854775807 ≤ b := by omega
      clear hr h c2 c3 hneg
      generalize -b * t = d at *
      have hgd : decide (d ≤ n) = true := by simpa using hge
      have HR := Lib.hid hr2
      clear hr2
      go_enter Try.func44, Try.ntmps44
      go_wp2_with fail
      refine hm.mono ?_
      rintro e w' ⟨rfl, rfl⟩
      go_wp2_with fail
      go_ret2
      exact ⟨by rw [← HR.out]; rfl, rfl⟩
  · cases h
set_option maxHeartbeats 800000 in
theorem sum_no (n b t : Int) (hn : 0 ≤ n ∧ n ≤ 9223372036854775807) (hb : In64 b) (ht : 0 ≤ t ∧ t ≤ 9223372036854775807) (h : sumD n b t = none) :
    ∃ v : Int, ∀ w : World, Calls Try.prog 44 #[.int .i64 n, .int .i64 b, .int .i64 t] w fun e w' => e = .returned (.tuple #[.int .i64 v, .bool false]) ∧ w = w' := by
  obtain ⟨hn1, hn2⟩ := hn
  obtain ⟨hb1, hb2⟩ := hb
  obtain ⟨ht1, ht2⟩ := ht
  have hc : ¬ (b ≠ -9223372036854775808 ∧ 0 ≤ n + b * t ∧ n + b * t ≤ 9223372036854775807) := fun hc => by unfold sumD at h; rw [if_pos hc] at h; cases h
  clear h
  by_cases hmin : b = -9223372036854775808
  · refine ⟨0, fun w => ?_⟩
    have hm := mul_any b t w ⟨hb1, hb2⟩ ⟨by omega, ht2⟩
    rw [mulS_no (by omega)] at hm
    have hw : wrap64 (-b) = b := by unfold wrap64; omega
    have hbm : (b == -9223372036854775808) = true := by rw [beq_iff_eq]; exact hmin
    have hll : ¬ b < b := by omega
    clear hmin hc hb1 hb2
    go_enter Try.func44, Try.ntmps44
    go_wp2_with fail
    refine hm.mono ?_
    rintro e w' ⟨rfl, rfl⟩
    go_wp2_with fail
    go_ret2
    exact ⟨rfl, rfl⟩
  · have hbm : (b == -9223372036854775808) = false := by rw [beq_eq_false_iff_ne]; exact hmin
    by_cases h0 : 0 ≤ b
    · have hp : 0 ≤ b * t := Int.mul_nonneg h0 ht1
      have hlt : ¬ b < -b := by omega
      have hn0 : ¬ b < 0 := by omega
      refine ⟨0, fun w => ?_⟩
      have hm := mul_any b t w ⟨hb1, hb2⟩ ⟨by omega, ht2⟩
      by_cases hle : b * t ≤ 9223372036854775807
      · rw [mulS_yes ⟨h0, ht1, hle⟩] at hm
        have ha := add_any n (b * t) w ⟨by omega, hn2⟩ ⟨by omega, hle⟩
        rw [addS_no (fun hh => hc ⟨hmin, by omega, hh.2.2⟩)] at ha
        simp only at hm ha
        clear hc
        generalize b * t = d at *
        go_enter Try.func44, Try.ntmps44
        go_wp2_with fail
        refine hm.mono ?_
        rintro e w' ⟨rfl, rfl⟩
        go_wp2_with fail
        refine ha.mono ?_
        rintro e w' ⟨rfl, rfl⟩
        go_wp2_with fail
        go_ret2
        exact ⟨rfl, rfl⟩
      · rw [mulS_no (fun hh => hle hh.2.2)] at hm
        simp only at hm
        clear hc
        generalize b * t = d at *
        go_enter Try.func44, Try.ntmps44
        go_wp2_with fail
        refine hm.mono ?_
        rintro e w' ⟨rfl, rfl⟩
        go_wp2_with fail
        go_ret2
        exact ⟨rfl, rfl⟩
    · have hp : 0 ≤ -b * t := Int.mul_nonneg (by omega) ht1
      have hneg : -b * t = -(b * t) := Int.neg_mul b t
      have hlt : b < -b := by omega
      have hn0 : b < 0 := by omega
      have hbl : -9223372036854775807 ≤ b := by omega
      have hm0 := fun w => mul_any (-b) t w ⟨by omega, by omega⟩ ⟨by omega, ht2⟩
      by_cases hle : -b * t ≤ 9223372036854775807
      · refine ⟨n - -b * t, fun w => ?_⟩
        have hm := hm0 w
        rw [mulS_yes ⟨by omega, ht1, hle⟩] at hm
        have hge : ¬ -b * t ≤ n := fun hh => hc ⟨hmin, by omega, by omega⟩
        simp only at hm
        clear hc hneg hm0
        generalize -b * t = d at *
        have hgd : decide (d ≤ n) = false := by simpa using hge
        go_enter Try.func44, Try.ntmps44
        go_wp2_with fail
        refine hm.mono ?_
        rintro e w' ⟨rfl, rfl⟩
        go_wp2_with fail
        go_ret2
        exact ⟨rfl, rfl⟩
      · refine ⟨0, fun w => ?_⟩
        have hm := hm0 w
        rw [mulS_no (fun hh => hle hh.2.2)] at hm
        simp only at hm
        clear hc hneg hm0
        generalize -b * t = d at *
        go_enter Try.func44, Try.ntmps44
        go_wp2_with fail
        refine hm.mono ?_
        rintro e w' ⟨rfl, rfl⟩
        go_wp2_with fail
        go_ret2
        exact ⟨rfl, rfl⟩
end Go.Proofs.Ytaecngdabgnamaa.DMath
