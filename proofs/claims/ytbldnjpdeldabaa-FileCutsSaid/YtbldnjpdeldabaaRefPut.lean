/- Layer 1: the reference's digits. -/
import Derived.Test.YtbldnjpdeldabaaHexPut
import Derived.Lib.Hide
namespace Go.Proofs.Ytbldnjpdeldabaa.RefPut
open Go.RowKit Base Foot HexPut
set_option linter.unusedVariables false
set_option linter.unusedSimpArgs false
attribute [local go_sem ↓] Go.wp_at_zero Go.wp_at_succ

theorem dig_cut (i : Nat) (h : i < 16) : (⟨#[48, 49, 50, 51, 52, 53, 54, 55, 56, 57, 97, 98, 99, 100, 101, 102]⟩ : ByteArray).extract i (i + 1) = ⟨#[dig i]⟩ := by
  have : ∀ j : Fin 16, (⟨#[48, 49, 50, 51, 52, 53, 54, 55, 56, 57, 97, 98, 99, 100, 101, 102]⟩ : ByteArray).extract j.val (j.val + 1) = ⟨#[dig j.val]⟩ := by decide +kernel
  exact this ⟨i, h⟩
set_option maxHeartbeats 1600000 in
set_option maxRecDepth 100000 in
theorem rput_any (s : ByteArray) (w : World) (hs : s.size < 100000000) :
    Calls Try.prog 88 #[.string s] w fun e w' => e = .returned (.string (hexB s)) ∧ ∃ n, w' = w.drewN n := by
  have hll : s.data.toList.length = s.size := by rw [Array.length_toList]; rfl
  go_enter Try.func88, Try.ntmps88
  go_wp2_with fail
  go_loopw [4, 5] (fun v4 v5 wr => ∃ (k : Nat) (h : ByteArray), k ≤ s.size ∧ v5 = .int .i64 (k : Int) ∧ v4 = .string h ∧ Hid (h = ⟨(hexL (s.data.toList.take k)).toArray⟩) ∧ Hid (∃ n, wr = w.drewN n)) (fun _ i _ => s.size - (intOf i).toNat)
  case atStart => exact ⟨0, _, by omega, rfl, rfl, (rfl : (⟨#[]⟩ : ByteArray) = ⟨(hexL (s.data.toList.take 0)).toArray⟩), (⟨0, rfl⟩ : ∃ n, w = w.drewN n)⟩
  case round =>
    obtain ⟨k, h, hk, rfl, rfl, hH, hD⟩ := hrel
    by_cases hlt : k < s.size
    · obtain ⟨c, hc⟩ : ∃ c, s[k]'hlt = c := ⟨_, rfl⟩
      have hcl : s.data.toList[k]? = some c := by rw [Array.getElem?_toList, ← hc]; exact Array.getElem?_eq_getElem (xs := s.data) hlt
      have hstep := hexL_step hcl
      have hn := UInt8.toNat_lt c
      obtain ⟨n, hcn⟩ : ∃ n, c.toNat = n := ⟨_, rfl⟩
      rw [hcn] at hn hstep
      have k0 : (0 : Int) ≤ (k : Int) := by omega
      have k1 : (k : Int) < (s.size : Int) := by omega
      have hhs : h.size < 500000000 := by rw [hH.out]; show (hexL (s.data.toList.take k)).toArray.size < _; rw [List.size_toArray, hexL_len, List.length_take]; omega
      have HST := Lib.hid hstep
      clear hstep hcl
      go_wp2_with fail
      go_quiet (fail)
      rw [dig_cut (n / 16) (by omega), dig_cut (n % 16) (by omega)]
      have hH2 : Hid (h ++ ⟨#[dig (n / 16)]⟩ ++ ⟨#[dig (n % 16)]⟩ = ⟨(hexL (s.data.toList.take (k + 1))).toArray⟩) := by
        show h ++ ⟨#[dig (n / 16)]⟩ ++ ⟨#[dig (n % 16)]⟩ = ⟨(hexL (s.data.toList.take (k + 1))).toArray⟩
        rw [HST.out, hH.out]
        apply ByteArray.ext
        simp [ByteArray.data_append]
      have hD2 : Hid (∃ n, wr.drewN nq = w.drewN n) := by obtain ⟨n, e⟩ := hD.out; exact ⟨_, by rw [e]; exact World.drewN_drewN _ _ _⟩
      go_wp2_with fail
      go_roundw
      case rel => exact ⟨k + 1, _, by omega, by go_num, rfl, hH2, hD2⟩
      case measure => simp [intOf]; omega
    · obtain rfl : k = s.size := by omega
      have htk : s.data.toList.take s.size = s.data.toList := by rw [← hll]; exact List.take_length
      have hHH := hH.out
      rw [htk] at hHH
      have HHH := Lib.hid hHH
      clear hHH hH
      go_wp2_with fail
      go_ret
      exact ⟨by rw [HHH.out]; rfl, hD.out⟩
end Go.Proofs.Ytbldnjpdeldabaa.RefPut
