/- The calls of table.Check, of its reference, and of the reference's Weight, walked by hand; and the law TableTells. -/
import Derived.Test.YtaecngdabgnamaaTOfMath
namespace Go.Proofs.Ytaecngdabgnamaa.TableWalk
open Go.RowKit Go.Proofs.YtaecngdabgnamaaW.PrintWords Go.Proofs.YtaecngdabgnamaaW.PrintLast Go.Proofs.YtaecngdabgnamaaW.PrintMore PTableOf TableA TableMath Base
attribute [local go_sem] max2_int min2_int max_two min_two
set_option linter.unusedVariables false

theorem weight_any (A : Option Addr) (c : Nat) (l : List S109) (w : World) (hr : Kd.C k109 w A l.length l) (hc : l.length ≤ c) (hl : Fits l) (hn : l.length ≤ 1000000) :
    Calls Try.prog 53 #[.slice A l.length c] w fun e w' => e = .returned (.tuple #[.int .i64 (weightS l).1, .bool (weightS l).2]) ∧ Below w.heap.size w w' := by
  obtain ⟨k, h⟩ := (weight_ev l hl hn).rounds
  exact table_Weight.calls k A c l _ _ w hr hc h

set_option maxHeartbeats 400000 in
set_option maxRecDepth 100000 in
theorem check_any (A : Option Addr) (c : Nat) (l : List S109) (w : World) (hr : Kd.C k109 w A l.length l) (hc : l.length ≤ c) (hl : Fits l) (hn : l.length ≤ 1000000) :
    Calls Try.prog 35 #[.slice A l.length c] w fun e w' => e = .returned (.tuple #[.int .i64 (checkS l).1, .int .i64 (checkS l).2]) ∧ Below w.heap.size w w' := by
  go_enter Try.func35, Try.ntmps35
  go_wp2
  go_loopw [4, 12] (fun v4 v12 wr => ∃ k : Nat, k ≤ l.length ∧ v12 = .int .i64 (k : Int) ∧ v4 = .string (ahd l k) ∧ Hid (firstWrong ⟨#[]⟩ 0 l = firstWrong (ahd l k) k (l.drop k)) ∧ Below w.heap.size w wr) (fun _ i _ => l.length - (intOf i).toNat)
  case atStart => exact ⟨0, Nat.zero_le _, rfl, rfl, by simp [Hid, ahd], Below.refl _ _⟩
  case round =>
    obtain ⟨k, hk, rfl, rfl, hw, hB⟩ := hrel
    by_cases hlt : k < l.length
    · obtain ⟨ad, e1, hx0, hx1⟩ := at_T109 hr (k : Int) (by omega) (by omega)
      cases e1
      replace hx0 := (hB.cell (World.block_lt_of_cell? w _ hx0)).trans hx0
      replace hx1 := (hB.cell (World.block_lt_of_cell? w _ hx1)).trans hx1
      simp only [Int.toNat_natCast] at hx0 hx1
      have hs := hB.size
      have HS := Lib.hid (ahd_succ l k)
      have HF := Lib.hid (first_step l k hlt hw.out)
      have HN := Lib.hid (first_found l k hlt hw.out)
      by_cases h0 : wrongS (ahd l k) (rd_T109 l (k : Int)).f0 (rd_T109 l (k : Int)).f1 = 0
      · have HZ := Lib.hid h0
        have h1 : (wrongS (ahd l k) (rd_T109 l (k : Int)).f0 (rd_T109 l (k : Int)).f1 != 0) = false := by simp [h0]
        clear h0
        go_wp2_with (go_at_call 58; refine (wrong_any _ _ _ _).mono ?_; rintro e w1 ⟨rfl, hb1⟩; obtain ⟨hc1, hf1⟩ := bcell hb1; have hz := hb1.size)
        go_roundw
        case rel => exact ⟨k + 1, by omega, by go_num, by rw [HS.out], HF.out HZ.out, ((hB.alloc hs _).trans (hb1.mono (by simp; omega)))⟩
        case measure => simp [intOf]; omega
      · have HZ := Lib.hid h0
        have h1 : (wrongS (ahd l k) (rd_T109 l (k : Int)).f0 (rd_T109 l (k : Int)).f1 != 0) = true := by simp [h0]
        clear h0
        go_wp2_with (go_at_call 58; refine (wrong_any _ _ _ _).mono ?_; rintro e w1 ⟨rfl, hb1⟩; obtain ⟨hc1, hf1⟩ := bcell hb1; have hz := hb1.size)
        go_ret2
        exact ⟨by rw [HN.out HZ.out]; rfl, ((hB.alloc hs _).trans (hb1.mono (by simp; omega)))⟩
    · obtain rfl : k = l.length := by omega
      have HN := Lib.hid (first_none l hw.out)
      have hr2 := Kd.C_below hr hB
      cases h2 : (weightS l).2
      · go_wp2_with (go_at_call 53; refine (weight_any _ _ _ _ hr2 hc hl hn).mono ?_; rintro e w1 ⟨rfl, hb1⟩)
        go_ret2
        exact ⟨by rw [HN.out, h2]; rfl, hB.trans (hb1.mono hB.size)⟩
      · go_wp2_with (go_at_call 53; refine (weight_any _ _ _ _ hr2 hc hl hn).mono ?_; rintro e w1 ⟨rfl, hb1⟩)
        go_ret2
        exact ⟨by rw [HN.out, h2]; rfl, hB.trans (hb1.mono hB.size)⟩

theorem awake_any (w : World) : Calls Try.prog 31 #[] w fun e w' => e = .returned (.bool true) ∧ Below w.heap.size w w' := gluepotlaw08_awake.calls 20 _ w awake_ev
end Go.Proofs.Ytaecngdabgnamaa.TableWalk
