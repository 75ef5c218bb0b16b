/- gluepotref01.Less, walked. -/
import Derived.Test.YthinomhjhkhidaaFoot
import Derived.Test.YthinomhjhkhidaaWMore
import Derived.Test.YthinomhjhkhidaaWLast
import Derived.Deep.RegionLaw
import Derived.Deep.DrawnRows
namespace Go.Proofs.Ythinomhjhkhidaa.RLess
open Go.RowKit Go.Proofs.YthinomhjhkhidaaW.PrintWords Go.Proofs.YthinomhjhkhidaaW.PrintLast Go.Proofs.YthinomhjhkhidaaW.PrintMore Base Foot
set_option linter.unusedVariables false
set_option linter.unusedSimpArgs false
attribute [local go_sem ↓] Go.wp_at_zero Go.wp_at_succ

abbrev bl (a b : List UInt8) : Bool := Op.bytesLess a b
theorem bl_step {a b : List UInt8} {k : Nat} {c d : UInt8} (ha : a[k]? = some c) (hb : b[k]? = some d) : bl (a.drop k) (b.drop k) = (decide (c < d) || (c == d && bl (a.drop (k + 1)) (b.drop (k + 1)))) := by
  obtain ⟨h1, e1⟩ := List.getElem?_eq_some_iff.1 ha
  obtain ⟨h2, e2⟩ := List.getElem?_eq_some_iff.1 hb
  rw [List.drop_eq_getElem_cons h1, List.drop_eq_getElem_cons h2, e1, e2]
  rfl
theorem bl_end {a b : List UInt8} {k : Nat} (h : a.length ≤ k ∨ b.length ≤ k) (hk : k ≤ a.length ∧ k ≤ b.length) : bl (a.drop k) (b.drop k) = decide (a.length < b.length) := by
  by_cases hb : b.length ≤ k
  · rw [List.drop_eq_nil_of_le hb]
    have : ¬ a.length < b.length := by omega
    simp only [this, decide_false]
    cases a.drop k <;> rfl
  · have ha : a.length ≤ k := by omega
    rw [List.drop_eq_nil_of_le ha]
    have h3 : a.length < b.length := by omega
    cases e : b.drop k with
    | nil => have := List.drop_eq_nil_iff.1 e; omega
    | cons x t => simp [bl, Op.bytesLess, h3]

set_option maxHeartbeats 1600000 in
set_option maxRecDepth 100000 in
theorem less_any (a b : ByteArray) (w : World) (ha : a.size < 100000000) (hb : b.size < 100000000) :
    Calls Try.prog 43 #[.string a, .string b] w fun e w' => e = .returned (.bool (Op.bytesLess a.toList b.toList)) ∧ Below w.heap.size w w' := by
  have la : a.data.toList.length = a.size := by rw [Array.length_toList]; rfl
  have lb : b.data.toList.length = b.size := by rw [Array.length_toList]; rfl
  rw [ByteArray.toList_eq, ByteArray.toList_eq]
  have LA := Lib.hid la
  have LB := Lib.hid lb
  clear la lb
  generalize hR : Op.bytesLess a.data.toList b.data.toList = R at *
  have HR := Lib.hid hR
  clear hR
  go_enter Try.func43, Try.ntmps43
  go_wp2_with fail
  go_loopw [5] (fun v5 wr => ∃ k : Nat, k ≤ a.size ∧ k ≤ b.size ∧ v5 = .int .i64 (k : Int) ∧ Hid (bl (a.data.toList.drop k) (b.data.toList.drop k) = R) ∧ Below w.heap.size w wr) (fun i _ => a.size - (intOf i).toNat)
  case atStart => exact ⟨0, by omega, by omega, rfl, Lib.hid (by simpa using HR.out), Below.refl _ _⟩
  case round =>
    obtain ⟨k, hka, hkb, rfl, hH, hbw⟩ := hrel
    by_cases h1 : k < a.size
    · by_cases h2 : k < b.size
      · obtain ⟨c, hc⟩ : ∃ c, a[k]'h1 = c := ⟨_, rfl⟩
        obtain ⟨d, hd⟩ : ∃ d, b[k]'h2 = d := ⟨_, rfl⟩
        have hca : a.data.toList[k]? = some c := by rw [Array.getElem?_toList, ← hc]; exact Array.getElem?_eq_getElem (xs := a.data) h1
        have hdb : b.data.toList[k]? = some d := by rw [Array.getElem?_toList, ← hd]; exact Array.getElem?_eq_getElem (xs := b.data) h2
        have hst := bl_step hca hdb
        have hlt : (c < d) = (c.toNat < d.toNat) := by rw [UInt8.lt_iff_toNat_lt]
        have heq : (c == d) = decide (c.toNat = d.toNat) := by
          by_cases h : c = d
          · subst h; simp
          · have : ¬ c.toNat = d.toNat := fun e => h (UInt8.toNat_inj.1 e)
            simp [h, this]
        obtain ⟨x, hx⟩ : ∃ x, c.toNat = x := ⟨_, rfl⟩
        obtain ⟨y, hy⟩ : ∃ y, d.toNat = y := ⟨_, rfl⟩
        have hx2 := UInt8.toNat_lt c
        have hy2 := UInt8.toNat_lt d
        simp only [hlt, heq] at hst
        rw [hx, hy] at hst
        rw [hx] at hx2
        rw [hy] at hy2
        clear hlt heq hca hdb
        have k0 : (0 : Int) ≤ (k : Int) := by omega
        have k1 : (k : Int) < (a.size : Int) := by omega
        have k2 : (k : Int) < (b.size : Int) := by omega
        have HST := Lib.hid hst
        clear hst
        by_cases hxy : x = y
        · subst hxy
          have HX := Lib.hid hx
          go_wp2_with fail
          go_quiet (fail)
          go_wp2_with fail
          go_roundw
          case rel => exact ⟨k + 1, by omega, by omega, by go_num, Lib.hid (by rw [← hH.out, HST.out]; simp), hbw.trans (bdrew _ _ _)⟩
          case measure => simp [intOf] <;> omega
        · have hne : ((x : Int) == (y : Int)) = false := by simp; omega
          have hR : R = decide (x < y) := by rw [← hH.out, HST.out]; simp [hxy]
          have HRR := Lib.hid hR
          clear hR
          go_wp2_with fail
          go_quiet (fail)
          go_wp2_with fail
          go_quiet (fail)
          go_wp2_with fail
          go_ret
          exact ⟨by rw [HRR.out]; simp, (hbw.trans (bdrew _ _ _)).trans (bdrew _ _ _)⟩
      · have hR : R = decide (a.size < b.size) := by
          rw [← hH.out, bl_end (by rw [LA.out, LB.out]; omega) (by rw [LA.out, LB.out]; omega), LA.out, LB.out]
        have HRR := Lib.hid hR
        clear hR
        go_wp2_with fail
        go_ret
        exact ⟨by rw [HRR.out]; simp, hbw⟩
    · have hR : R = decide (a.size < b.size) := by
        rw [← hH.out, bl_end (by rw [LA.out, LB.out]; omega) (by rw [LA.out, LB.out]; omega), LA.out, LB.out]
      have HRR := Lib.hid hR
      clear hR
      go_wp2_with fail
      go_ret
      exact ⟨by rw [HRR.out]; simp, hbw⟩
end Go.Proofs.Ythinomhjhkhidaa.RLess
