/- The calls of gluepotref06.Mul and table.wrong, walked by hand: what they compute, for every input. -/
import Derived.Test.YtaecngdabgnamaaPTableOfx0
import Derived.Test.YtaecngdabgnamaaBase
namespace Go.Proofs.Ytaecngdabgnamaa.TableA
open Go.RowKit Go.Proofs.YtaecngdabgnamaaW.PrintWords Go.Proofs.YtaecngdabgnamaaW.PrintLast Go.Proofs.YtaecngdabgnamaaW.PrintMore Base
set_option linter.unusedVariables false

def mulS (a b : Int) : Int × Bool := if 0 ≤ a ∧ 0 ≤ b ∧ a * b ≤ 9223372036854775807 then (a * b, true) else (0, false)

set_option maxHeartbeats 400000 in
theorem rmul_neg (a b : Int) (w : World) (h : a < 0) :
    Calls Try.prog 45 #[.int .i64 a, .int .i64 b] w fun e w' => e = .returned (.tuple #[.int .i64 0, .bool false]) ∧ w = w' := by
  go_enter Try.func45, Try.ntmps45
  go_wp2
  go_ret2
  exact ⟨rfl, rfl⟩

set_option maxHeartbeats 400000 in
theorem rmul_neg2 (a b : Int) (w : World) (h : 0 ≤ a) (hb : b < 0) :
    Calls Try.prog 45 #[.int .i64 a, .int .i64 b] w fun e w' => e = .returned (.tuple #[.int .i64 0, .bool false]) ∧ w = w' := by
  go_enter Try.func45, Try.ntmps45
  go_wp2
  go_ret2
  exact ⟨rfl, rfl⟩

set_option maxHeartbeats 400000 in
theorem rmul_zero (a : Int) (w : World) (h : 0 ≤ a) :
    Calls Try.prog 45 #[.int .i64 a, .int .i64 0] w fun e w' => e = .returned (.tuple #[.int .i64 0, .bool true]) ∧ w = w' := by
  go_enter Try.func45, Try.ntmps45
  go_wp2
  go_ret2
  exact ⟨by simp, rfl⟩

set_option maxHeartbeats 400000 in
theorem rmul_pos (a b : Int) (w : World) (h : 0 ≤ a) (hb : 0 < b) (hle : a ≤ 9223372036854775807 / b) :
    Calls Try.prog 45 #[.int .i64 a, .int .i64 b] w fun e w' => e = .returned (.tuple #[.int .i64 (wrap64 (a * b)), .bool true]) ∧ w = w' := by
  go_enter Try.func45, Try.ntmps45
  go_wp2
  go_ret2
  exact ⟨rfl, rfl⟩

set_option maxHeartbeats 400000 in
theorem rmul_big (a b : Int) (w : World) (h : 0 ≤ a) (hb : 0 < b) (hle : 9223372036854775807 / b < a) :
    Calls Try.prog 45 #[.int .i64 a, .int .i64 b] w fun e w' => e = .returned (.tuple #[.int .i64 0, .bool false]) ∧ w = w' := by
  go_enter Try.func45, Try.ntmps45
  go_wp2
  go_ret2
  exact ⟨rfl, rfl⟩

theorem rmul_any (a b : Int) (w : World) (ha : In64 a) (hb : In64 b) :
    Calls Try.prog 45 #[.int .i64 a, .int .i64 b] w fun e w' => e = .returned (.tuple #[.int .i64 (mulS a b).1, .bool (mulS a b).2]) ∧ w = w' := by
  obtain ⟨ha1, ha2⟩ := ha
  obtain ⟨hb1, hb2⟩ := hb
  unfold mulS
  by_cases h1 : a < 0
  · rw [if_neg (by omega)]; exact rmul_neg a b w h1
  · by_cases h2 : b < 0
    · rw [if_neg (by omega)]; exact rmul_neg2 a b w (by omega) h2
    · by_cases h3 : b = 0
      · subst h3
        rw [if_pos ⟨by omega, by omega, by simp⟩]
        simpa using rmul_zero a w (by omega)
      · have h3' : 0 < b := by omega
        have hp : 0 ≤ a * b := Int.mul_nonneg (by omega) (by omega)
        have hq : 0 ≤ (9223372036854775807 : Int) / b := Int.ediv_nonneg (by omega) (by omega)
        have hq2 : (9223372036854775807 : Int) / b ≤ 9223372036854775807 := Int.ediv_le_self _ (by omega)
        have key : (a ≤ (9223372036854775807 : Int) / b) ↔ a * b ≤ 9223372036854775807 := Int.le_ediv_iff_mul_le h3'
        by_cases h4 : a * b ≤ 9223372036854775807
        · have hw : wrap64 (a * b) = a * b := by unfold wrap64; omega
          rw [if_pos ⟨by omega, by omega, h4⟩]
          have := rmul_pos a b w (by omega) h3' (key.2 h4)
          rwa [hw] at this
        · rw [if_neg (fun h => h4 h.2.2)]
          exact rmul_big a b w (by omega) h3' (by have := mt key.1 h4; omega)

/-- what is wrong with a word behind another one -/
def wrongS (a s : ByteArray) (n : Int) : Int :=
  if s.toList.isEmpty = true ∨ n < 1 then 1 else if 65536 < s.size then 4 else if (Op.bytesLess s.toList a.toList || s.toList == a.toList) = true then 6 else 0

set_option maxHeartbeats 400000 in
theorem wrong_any (a s : ByteArray) (n : Int) (w : World) :
    Calls Try.prog 58 #[.string a, .agg #[.string s, .int .i64 n]] w fun e w' => e = .returned (.int .i64 (wrongS a s n)) ∧ Below w.heap.size w w' := by
  unfold wrongS
  have hBel := ((Below.refl w.heap.size w).alloc (Nat.le_refl _) (.cells #[.string s, .int .i64 n] 109))
  cases h1 : s.toList.isEmpty
  · by_cases h2 : n < 1
    · rw [if_pos (by simp [h2])]
      go_enter Try.func58, Try.ntmps58
      go_wp2
      go_ret
      exact ⟨rfl, hBel⟩
    · have h2d : decide (n < 1) = false := by simpa using h2
      rw [if_neg (by simp [h2])]
      by_cases h3 : 65536 < s.size
      · rw [if_pos h3]
        go_enter Try.func58, Try.ntmps58
        go_wp2
        go_ret
        exact ⟨rfl, hBel⟩
      · have h3d : decide (65536 < (s.size : Int)) = false := by simp; omega
        rw [if_neg h3]
        cases h4 : (Op.bytesLess s.toList a.toList || s.toList == a.toList)
        · go_enter Try.func58, Try.ntmps58
          go_wp2
          go_ret
          exact ⟨rfl, hBel⟩
        · go_enter Try.func58, Try.ntmps58
          go_wp2
          go_ret
          exact ⟨rfl, hBel⟩
  · rw [if_pos (by simp)]
    go_enter Try.func58, Try.ntmps58
    go_wp2
    go_ret
    exact ⟨rfl, hBel⟩
end Go.Proofs.Ytaecngdabgnamaa.TableA
