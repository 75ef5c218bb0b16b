/- FileWrites: whether any merges are right, and where not, and their file, is what the document says. No condition. -/
import Derived.Test.YtbldnjpdeldabaaFileLaw
import Derived.Test.YtbldnjpdeldabaaRefWrite
import Derived.Test.YtbldnjpdeldabaaRefRight
namespace Go.Proofs.Ytbldnjpdeldabaa.FileWrites
open Go.RowKit Go.ChangeShapes Go.WideShapes Go.Deep Go.Proofs.YtbldnjpdeldabaaW.PrintWords Go.Proofs.YtbldnjpdeldabaaW.PrintLast Go.Proofs.YtbldnjpdeldabaaW.PrintMore Base Foot Kinds FilePure FileJoin FileWrite RefFile RefWrite RefRight FileLaw
set_option linter.unusedVariables false
set_option linter.unusedSimpArgs false
attribute [local go_sem ↓] Go.wp_at_zero Go.wp_at_succ

theorem great_no {l : List Mg} {most : Nat} (h : greatB l most = false) : l.length ≤ most ∧ ∀ m ∈ l, m.1.size ≤ 300 ∧ m.2.size ≤ 300 := by
  unfold greatB at h
  rw [Bool.or_eq_false_iff] at h
  refine ⟨by have := of_decide_eq_false h.2; omega, fun m hm => ?_⟩
  have h1 := List.any_eq_false.1 h.1 m hm
  simp [longM] at h1
  omega

set_option maxHeartbeats 1600000 in
set_option maxRecDepth 100000 in
theorem law_any (A : Option Addr) (cp : Nat) (l : List Mg) (w : World) (hr : Kd.C kSS w A l.length l) (hc : l.length ≤ cp) (hl : l.length ≤ maxLen) :
    Calls Try.prog 12 #[.slice A l.length cp] w fun e w' => e = .returned (.bool true) ∧ Below w.heap.size w w' := by
  go_enter Try.func12, Try.ntmps12
  go_wp2_with fail
  refine (awake_any _).mono ?_
  rintro e w1 ⟨rfl, b1⟩
  have hr1 := Kd.C_below hr b1
  go_wp2_with fail
  refine (great_any A cp l 100 w1 hr1 hl (by decide)).mono ?_
  rintro e w2 ⟨rfl, rfl⟩
  by_cases hgr : greatB l 100 = true
  · rw [hgr]
    go_wp2_with fail
    go_ret
    exact ⟨rfl, b1⟩
  · have hgf : greatB l 100 = false := by cases hx : greatB l 100; rfl; exact absurd hx hgr
    rw [hgf]
    obtain ⟨h100, h300⟩ := great_no hgf
    clear hgr hgf hl
    have hg2 : ∀ m ∈ l, m.1.size ≤ 1000 ∧ m.2.size ≤ 1000 := fun m hm => by have := h300 m hm; omega
    have hg3 : ∀ m ∈ l, m.1.size ≤ maxLen ∧ m.2.size ≤ maxLen := fun m hm => by have := h300 m hm; unfold maxLen; omega
    go_wp2_with fail
    refine (check_any A cp l _ hr1 hg3 (by omega)).mono ?_
    rintro e w3 ⟨rfl, b3⟩
    have hr3 := Kd.C_below hr1 b3
    have bb3 := b1.trans (b3.mono b1.size)
    go_wp2_with fail
    refine (rcheck_any A cp l w3 hr3 hc hg2 (by omega)).mono ?_
    rintro e w4 ⟨rfl, n4, h4⟩
    have hr4 : Kd.C kSS w4 A l.length l := by rw [h4]; exact Kd.C_drewN hr3 n4
    have bb4 : Below w.heap.size w w4 := by rw [h4]; exact bb3.trans (bdrew _ _ _)
    clear h4 hr3 bb3 hr1 b1 b3
    go_wp2_with fail
    refine (write_any A cp l w4 hr4 hg2 (by omega)).mono ?_
    rintro e w5 ⟨rfl, b5⟩
    have hr5 := Kd.C_below hr4 b5
    have bb5 := bb4.trans (b5.mono bb4.size)
    go_wp2_with fail
    refine (rwrite_any A cp l w5 hr5 hc hg2 (by omega)).mono ?_
    rintro e w6 ⟨rfl, n6, h6⟩
    have hr6 : Kd.C kSS w6 A l.length l := by rw [h6]; exact Kd.C_drewN hr5 n6
    have bb6 : Below w.heap.size w w6 := by rw [h6]; exact bb5.trans (bdrew _ _ _)
    clear h6 hr5 bb5 hr4 bb4 b5
    have HR := Lib.hid (right_any A cp l w6 hr6 hg2 (by omega))
    generalize fileB l = fb at *
    generalize (chk [] l).2 = er at *
    generalize (chk [] l).1 = pl at *
    go_wp2_with fail
    refine HR.out.mono ?_
    rintro e w7 ⟨rfl, b7⟩
    have bb7 := bb6.trans (b7.mono bb6.size)
    by_cases he : er = 0
    · subst he
      go_wp2_with fail
      go_ret
      exact ⟨rfl, bb7⟩
    · have hd : decide (er = 0) = false := decide_eq_false he
      have hd2 : (er == 0) = false := by simp [he]
      rw [hd]
      go_wp2_with fail
      go_ret
      exact ⟨by first | rfl | simp [hd2], bb7⟩
theorem walk (W : World) (A : Option Addr) (cp : Nat) (l : List Mg) (hr : Kd.C kSS W A l.length l) (hc : l.length ≤ cp) (hg : ∀ x ∈ l, True) (hs : l.length * 32 ≤ reachBytes) :
    Calls Try.prog 12 #[.slice A l.length cp] W fun e w' => e = .returned (.bool true) ∧ Below W.heap.size W w' :=
  law_any A cp l W hr hc (by unfold reachBytes at hs; unfold maxLen; omega)
end Go.Proofs.Ytbldnjpdeldabaa.FileWrites
