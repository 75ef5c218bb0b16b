/- Layer 18: great ones, the reference. -/
import Derived.Test.YthinomhjhkhidaaFilePure
import Derived.Test.YthinomhjhkhidaaKinds
import Derived.Deep.RegionHeld3
import Derived.Deep.DrawnRows
namespace Go.Proofs.Ythinomhjhkhidaa.RefFile
open Go.RowKit Go.ChangeShapes Go.WideShapes Go.Deep Go.Proofs.YthinomhjhkhidaaW.PrintWords Go.Proofs.YthinomhjhkhidaaW.PrintLast Go.Proofs.YthinomhjhkhidaaW.PrintMore Base Foot Kinds FilePure
set_option linter.unusedVariables false
set_option linter.unusedSimpArgs false
attribute [local go_sem ↓] Go.wp_at_zero Go.wp_at_succ

def longM (m : Mg) : Bool := decide (300 < m.1.size) || decide (300 < m.2.size)
def greatB (l : List Mg) (most : Nat) : Bool := l.any longM || decide (most < l.length)
theorem any_step {p : Mg → Bool} {l : List Mg} {k : Nat} {m : Mg} (h : l[k]? = some m) (h1 : (l.take k).any p = false) (h2 : p m = false) : (l.take (k + 1)).any p = false := by
  obtain ⟨hk, e⟩ := List.getElem?_eq_some_iff.1 h
  rw [List.take_succ_eq_append_getElem hk, e, List.any_append, h1]
  simp [h2]
theorem any_yes {p : Mg → Bool} {l : List Mg} {k : Nat} {m : Mg} (h : l[k]? = some m) (h2 : p m = true) : l.any p = true :=
  List.any_eq_true.2 ⟨m, List.mem_of_getElem? h, h2⟩

set_option maxHeartbeats 1600000 in
set_option maxRecDepth 100000 in
theorem great_any (A : Option Addr) (cp : Nat) (l : List Mg) (most : Nat) (w : World) (hr : Kd.C kSS w A l.length l) (hl : l.length ≤ maxLen) (hm : most < 1000000) :
    Calls Try.prog 9 #[.slice A l.length cp, .int .i64 (most : Int)] w fun e w' => e = .returned (.bool (greatB l most)) ∧ w' = w := by
  unfold maxLen at hl
  go_enter Try.func9, Try.ntmps9
  go_wp2_with fail
  go_loopw [5] (fun v5 wr => ∃ (k : Nat), k ≤ l.length ∧ v5 = .int .i64 (k : Int) ∧ Hid ((l.take k).any longM = false) ∧ w = wr) (fun i _ => l.length - (intOf i).toNat)
  case atStart => exact ⟨0, by omega, rfl, (by simp : (l.take 0).any longM = false), rfl⟩
  case round =>
    obtain ⟨k, hk, rfl, hA, rfl⟩ := hrel
    by_cases hlt : k < l.length
    · have hx := List.getElem?_eq_getElem hlt
      obtain ⟨ad, e1, hx0, hx1⟩ := at_SS hr hx
      cases e1
      have hst := fun h => any_step hx hA.out h
      have hye : longM l[k] = true → l.any longM = true := fun h => any_yes hx h
      generalize l[k] = x at *
      obtain ⟨xa, xb⟩ := x
      simp only at hx0 hx1
      have HX := Lib.hid hx
      have HST := Lib.hid hst
      have HYE := Lib.hid hye
      clear hx hst hye
      by_cases h1 : 300 < xa.size
      · have hgr : greatB l most = true := by unfold greatB; rw [HYE.out (by simp [longM, h1])]; rfl
        go_wp2_with fail
        go_ret
        exact ⟨by first | rfl | (rw [hgr]; rfl), rfl⟩
      · by_cases h2 : 300 < xb.size
        · have hgr : greatB l most = true := by unfold greatB; rw [HYE.out (by simp [longM, h2])]; rfl
          go_wp2_with fail
          go_ret
          exact ⟨by first | rfl | (rw [hgr]; rfl), rfl⟩
        · have HA := Lib.hid (HST.out (by simp [longM, h1, h2]))
          go_wp2_with fail
          go_roundw
          case rel => exact ⟨k + 1, by omega, by go_num, HA, trivial⟩
          case measure => simp [intOf]; omega
    · obtain rfl : k = l.length := by omega
      have hA' := hA.out
      rw [List.take_length] at hA'
      have HGR := Lib.hid (show greatB l most = decide (most < l.length) by unfold greatB; rw [hA']; simp)
      clear hA'
      by_cases hml : most < l.length
      · go_wp2_with fail
        go_ret
        exact ⟨by rw [HGR.out]; simp [hml], rfl⟩
      · go_wp2_with fail
        go_ret
        exact ⟨by rw [HGR.out]; simp [hml], rfl⟩

end Go.Proofs.Ythinomhjhkhidaa.RefFile
