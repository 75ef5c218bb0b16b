/- The calls of table.Check, of its reference, and of the reference's Weight, walked by hand; and the law TableTells. -/
import Derived.Test.YtbldnjpdeldabaaTableMath
namespace Go.Proofs.Ytbldnjpdeldabaa.TableWalk
open Go.RowKit Go.Proofs.YtbldnjpdeldabaaW.PrintWords Go.Proofs.YtbldnjpdeldabaaW.PrintLast Go.Proofs.YtbldnjpdeldabaaW.PrintMore PTableTells TableA TableMath Base
attribute [local go_sem] max2_int min2_int max_two min_two
set_option linter.unusedVariables false

theorem weight_any (A : Option Addr) (c : Nat) (l : List S79) (w : World) (hr : Kd.C k79 w A l.length l) (hc : l.length ≤ c) (hl : Fits l) (hn : l.length ≤ 1000000) :
    Calls Try.prog 39 #[.slice A l.length c] w fun e w' => e = .returned (.tuple #[.int .i64 (weightS l).1, .bool (weightS l).2]) ∧ Below w.heap.size w w' := by
  obtain ⟨k, h⟩ := (weight_ev l hl hn).rounds
  exact table_Weight.calls k A c l _ _ w hr hc h

set_option maxHeartbeats 400000 in
set_option maxRecDepth 100000 in
theorem check_any (A : Option Addr) (c : Nat) (l : List S79) (w : World) (hr : Kd.C k79 w A l.length l) (hc : l.length ≤ c) (hl : Fits l) (hn : l.length ≤ 1000000) :
    Calls Try.prog 37 #[.slice A l.length c] w fun e w' => e = .returned (.tuple #[.int .i64 (checkS l).1, .int .i64 (checkS l).2]) ∧ Below w.heap.size w w' := by
  go_enter Try.func37, Try.ntmps37
  go_wp2
  go_loopw [4, 12] (fun v4 v12 wr => ∃ k : Nat, k ≤ l.length ∧ v12 = .int .i64 (k : Int) ∧ v4 = .string (ahd l k) ∧ Hid (firstWrong ⟨#[]⟩ 0 l = firstWrong (ahd l k) k (l.drop k)) ∧ Below w.heap.size w wr) (fun _ i _ => l.length - (intOf i).toNat)
  case atStart => exact ⟨0, Nat.zero_le _, rfl, rfl, by simp [Hid, ahd], Below.refl _ _⟩
  case round =>
    obtain ⟨k, hk, rfl, rfl, hw, hB⟩ := hrel
    by_cases hlt : k < l.length
    · obtain ⟨ad, e1, hx0, hx1⟩ := at_T79 hr (k : Int) (by omega) (by omega)
      cases e1
      replace hx0 := (hB.cell (World.block_lt_of_cell? w _ hx0)).trans hx0
      replace hx1 := (hB.cell (World.block_lt_of_cell? w _ hx1)).trans hx1
      simp only [Int.toNat_natCast] at hx0 hx1
      have hs := hB.size
      have HS := Lib.hid (ahd_succ l k)
      have HF := Lib.hid (first_step l k hlt hw.out)
      have HN := Lib.hid (first_found l k hlt hw.out)
      by_cases h0 : wrongS (ahd l k) (rd_T79 l (k : Int)).f0 (rd_T79 l (k : Int)).f1 = 0
      · have HZ := Lib.hid h0
        have h1 : (wrongS (ahd l k) (rd_T79 l (k : Int)).f0 (rd_T79 l (k : Int)).f1 != 0) = false := by simp [h0]
        clear h0
        go_wp2_with (go_at_call 74; refine (wrong_any _ _ _ _).mono ?_; rintro e w1 ⟨rfl, hb1⟩; obtain ⟨hc1, hf1⟩ := bcell hb1; have hz := hb1.size)
        go_roundw
        case rel => exact ⟨k + 1, by omega, by go_num, by rw [HS.out], HF.out HZ.out, ((hB.alloc hs _).trans (hb1.mono (by simp; omega)))⟩
        case measure => simp [intOf]; omega
      · have HZ := Lib.hid h0
        have h1 : (wrongS (ahd l k) (rd_T79 l (k : Int)).f0 (rd_T79 l (k : Int)).f1 != 0) = true := by simp [h0]
        clear h0
        go_wp2_with (go_at_call 74; refine (wrong_any _ _ _ _).mono ?_; rintro e w1 ⟨rfl, hb1⟩; obtain ⟨hc1, hf1⟩ := bcell hb1; have hz := hb1.size)
        go_ret2
        exact ⟨by rw [HN.out HZ.out]; rfl, ((hB.alloc hs _).trans (hb1.mono (by simp; omega)))⟩
    · obtain rfl : k = l.length := by omega
      have HN := Lib.hid (first_none l hw.out)
      have hr2 := Kd.C_below hr hB
      cases h2 : (weightS l).2
      · go_wp2_with (go_at_call 39; refine (weight_any _ _ _ _ hr2 hc hl hn).mono ?_; rintro e w1 ⟨rfl, hb1⟩)
        go_ret2
        exact ⟨by rw [HN.out, h2]; rfl, hB.trans (hb1.mono hB.size)⟩
      · go_wp2_with (go_at_call 39; refine (weight_any _ _ _ _ hr2 hc hl hn).mono ?_; rintro e w1 ⟨rfl, hb1⟩)
        go_ret2
        exact ⟨by rw [HN.out, h2]; rfl, hB.trans (hb1.mono hB.size)⟩

theorem radd_any (a b : Int) (w : World) (ha : In64 a) (hb : In64 b) :
    Calls Try.prog 78 #[.int .i64 a, .int .i64 b] w fun e w' => e = .returned (.tuple #[.int .i64 (addS a b).1, .bool (addS a b).2]) ∧ ∃ n, w' = w.drewN n :=
  (gluepotref06_Add.calls a b _ _ w (radd_eq a b ha hb)).mono fun e w' ⟨h1, h2⟩ => ⟨h1, h2.out⟩

theorem less_any (a b : ByteArray) (w : World) (ha : a.size ≤ 140737488351232) (hb : b.size ≤ 140737488351232) :
    Calls Try.prog 75 #[.string a, .string b] w fun e w' => e = .returned (.bool (Op.bytesLess a.toList b.toList)) ∧ ∃ n, w' = w.drewN n := by
  obtain ⟨k, h⟩ := (less_ev a b ha hb).rounds
  exact (gluepotref01_Less.calls k a b _ w h).mono fun e w' ⟨h1, h2⟩ => ⟨h1, h2.out⟩

theorem spell1 (x : S79) : (if (1 : Int) < (x.f0.size : Int) then (x.f0.size : Int) - 1 else 0) = lenOf x := by unfold lenOf mx; split <;> split <;> omega
theorem spell2 (x : S79) (h : x.f0.size ≤ 140737488351232) : (if (0 : Int) < IntKind.i64.wrap ((x.f0.size : Int) - 1) then IntKind.i64.wrap ((x.f0.size : Int) - 1) else 0) = lenOf x := by
  have e : IntKind.i64.wrap ((x.f0.size : Int) - 1) = (x.f0.size : Int) - 1 := IntWalk.i64_in _ (by omega)
  rw [e]; unfold lenOf mx; split <;> split <;> omega
theorem rmul_q (a b b' : Int) (w : World) (n : Nat) (h : b = b') (ha : In64 a) (hb : In64 b') :
    Calls Try.prog 77 #[.int .i64 a, .int .i64 b] (w.drewN n) fun e w'' => e = .returned (.tuple #[.int .i64 (mulS a b').1, .bool (mulS a b').2]) ∧ ∃ m, w'' = w.drewN m := by
  subst h
  exact Calls.quiet_of_same ((rmul_any _ _ _ ha hb).mono fun e w' ⟨h1, h2⟩ => ⟨h1, h2.symm⟩)

def wInv (l : List S79) (k : Nat) (s : Int) : Prop := interS (pairsOf l) 0 = interS (pairsOf (l.drop k)) s ∧ In64 s
theorem wInv_step {l : List S79} {k : Nat} {s : Int} (h : wInv l k s) (hk : k < l.length) (h1 : (mulS (rd_T79 l (k : Int)).f1 (lenOf (rd_T79 l (k : Int)))).2 = true)
    (h2 : (addS s (mulS (rd_T79 l (k : Int)).f1 (lenOf (rd_T79 l (k : Int)))).1).2 = true) : wInv l (k + 1) (addS s (mulS (rd_T79 l (k : Int)).f1 (lenOf (rd_T79 l (k : Int)))).1).1 := by
  refine ⟨?_, addS_in _ _⟩
  rw [h.1, rd79_drop l k hk]
  simp only [pairsOf, List.map_cons, interS]
  rw [if_pos h1, if_pos h2]
theorem wInv_mul {l : List S79} {k : Nat} {s : Int} (h : wInv l k s) (hk : k < l.length) (h1 : (mulS (rd_T79 l (k : Int)).f1 (lenOf (rd_T79 l (k : Int)))).2 = false) : weightS l = (0, false) := by
  rw [weightS, h.1, rd79_drop l k hk]
  simp only [pairsOf, List.map_cons, interS]
  rw [if_neg (by simp [h1])]
theorem wInv_add {l : List S79} {k : Nat} {s : Int} (h : wInv l k s) (hk : k < l.length) (h1 : (mulS (rd_T79 l (k : Int)).f1 (lenOf (rd_T79 l (k : Int)))).2 = true)
    (h2 : (addS s (mulS (rd_T79 l (k : Int)).f1 (lenOf (rd_T79 l (k : Int)))).1).2 = false) : weightS l = (0, false) := by
  rw [weightS, h.1, rd79_drop l k hk]
  simp only [pairsOf, List.map_cons, interS]
  rw [if_pos h1, if_neg (by simp [h2])]
theorem wInv_end {l : List S79} {s : Int} (h : wInv l l.length s) : weightS l = (s, true) := by
  rw [weightS, h.1, List.drop_length]
  rfl

set_option maxHeartbeats 400000 in
set_option maxRecDepth 100000 in
theorem rweight_any (A : Option Addr) (c : Nat) (l : List S79) (w : World) (hr : Kd.C k79 w A l.length l) (hc : l.length ≤ c) (hl : Fits l) (hn : l.length ≤ 1000000) :
    Calls Try.prog 40 #[.slice A l.length c] w fun e w' => e = .returned (.tuple #[.int .i64 (weightS l).1, .bool (weightS l).2]) ∧ Below w.heap.size w w' := by
  go_enter Try.func40, Try.ntmps40
  go_wp2
  go_loopw [4, 5] (fun v4 v5 wr => ∃ (k : Nat) (s : Int), k ≤ l.length ∧ v5 = .int .i64 (k : Int) ∧ v4 = .int .i64 s ∧ Hid (wInv l k s) ∧ Below w.heap.size w wr) (fun _ i _ => l.length - (intOf i).toNat)
  case atStart => exact ⟨0, 0, Nat.zero_le _, rfl, rfl, ⟨rfl, by unfold In64; omega⟩, Below.refl _ _⟩
  case round =>
    obtain ⟨k, s, hk, rfl, rfl, hw, hB⟩ := hrel
    by_cases hlt : k < l.length
    · obtain ⟨ad, e1, hx0, hx1⟩ := at_T79 hr (k : Int) (by omega) (by omega)
      cases e1
      replace hx0 := (hB.cell (World.block_lt_of_cell? w _ hx0)).trans hx0
      replace hx1 := (hB.cell (World.block_lt_of_cell? w _ hx1)).trans hx1
      simp only [Int.toNat_natCast] at hx0 hx1
      have hs := hB.size
      have hx := hl (rd_T79 l (k : Int)) (by rw [rd79_nat l k hlt]; exact List.getElem_mem hlt)
      have hy := lenOf_in hx.2
      have hsz : (rd_T79 l (k : Int)).f0.size ≤ 140737488351232 := hx.2
      have HX := Lib.hid hx.1
      clear hx
      have hq0 : (0 : Int) ≤ (k : Int) := by omega
      have hq1 : (k : Int) < (l.length : Int) := by omega
      have HW := Lib.hid hw.out
      have hbd : (rd_T79 l (k : Int)).f0.size ≤ 140737488351232 := hsz
      cases h1 : (mulS (rd_T79 l (k : Int)).f1 (lenOf (rd_T79 l (k : Int)))).2
      · have HR := Lib.hid (wInv_mul hw.out hlt h1)
        go_wp2_with fail
        go_quiet ((go_at_call 77; exact rmul_q _ _ (lenOf (rd_T79 l (k : Int))) _ _ (by first | exact spell1 _ | exact spell2 _ hsz) HX.out hy))
        all_goals go_wp2
        all_goals go_ret2
        all_goals exact ⟨by rw [HR.out]; rfl, hB.trans ((bdrew _ _ _).mono hs)⟩
      · have ha := mulS_in (rd_T79 l (k : Int)).f1 (lenOf (rd_T79 l (k : Int)))
        have hs64 := HW.out.2
        cases h2 : (addS s (mulS (rd_T79 l (k : Int)).f1 (lenOf (rd_T79 l (k : Int)))).1).2
        · have HR := Lib.hid (wInv_add hw.out hlt h1 h2)
          go_wp2_with fail
          go_quiet ((go_at_call 77; exact rmul_q _ _ (lenOf (rd_T79 l (k : Int))) _ _ (by first | exact spell1 _ | exact spell2 _ hsz) HX.out hy))
          all_goals go_wp2_with (go_at_call 78; refine (radd_any _ _ _ hs64 ha).mono ?_; rintro e w1 ⟨rfl, n2, rfl⟩)
          all_goals go_ret2
          all_goals exact ⟨by rw [HR.out]; rfl, hB.trans ((bdrew _ _ _).mono hs)⟩
        · have HR := Lib.hid (wInv_step hw.out hlt h1 h2)
          go_wp2_with fail
          go_quiet ((go_at_call 77; exact rmul_q _ _ (lenOf (rd_T79 l (k : Int))) _ _ (by first | exact spell1 _ | exact spell2 _ hsz) HX.out hy))
          all_goals go_wp2_with (go_at_call 78; refine (radd_any _ _ _ hs64 ha).mono ?_; rintro e w1 ⟨rfl, n2, rfl⟩)
          all_goals go_roundw
          all_goals first
            | (case rel => exact ⟨k + 1, _, by omega, by go_num, rfl, HR.out, hB.trans ((bdrew _ _ _).mono hs)⟩)
            | skip
          all_goals (simp [intOf]; omega)
    · obtain rfl : k = l.length := by omega
      have HR := Lib.hid (wInv_end hw.out)
      go_wp2
      go_ret2
      exact ⟨by rw [HR.out]; rfl, hB⟩

set_option maxHeartbeats 400000 in
set_option maxRecDepth 100000 in
theorem rcheck_any (A : Option Addr) (c : Nat) (l : List S79) (w : World) (hr : Kd.C k79 w A l.length l) (hc : l.length ≤ c) (hl : Fits l) (hn : l.length ≤ 1000000) :
    Calls Try.prog 38 #[.slice A l.length c] w fun e w' => e = .returned (.tuple #[.int .i64 (checkS l).1, .int .i64 (checkS l).2]) ∧ Below w.heap.size w w' := by
  go_enter Try.func38, Try.ntmps38
  go_wp2
  go_loopw [4] (fun v4 wr => ∃ (k : Nat), k ≤ l.length ∧ v4 = .int .i64 (k : Int) ∧ Hid (firstWrong ⟨#[]⟩ 0 l = firstWrong (ahd l k) k (l.drop k)) ∧ Below w.heap.size w wr) (fun i _ => l.length - (intOf i).toNat)
  case atStart => exact ⟨0, Nat.zero_le _, rfl, by simp [Hid, ahd], Below.refl _ _⟩
  case round =>
    obtain ⟨k, hk, rfl, hw, hB⟩ := hrel
    by_cases hlt : k < l.length
    · obtain ⟨ad, e1, hx0, hx1⟩ := at_T79 hr (k : Int) (by omega) (by omega)
      cases e1
      replace hx0 := (hB.cell (World.block_lt_of_cell? w _ hx0)).trans hx0
      replace hx1 := (hB.cell (World.block_lt_of_cell? w _ hx1)).trans hx1
      simp only [Int.toNat_natCast] at hx0 hx1
      have hs := hB.size
      have hsz : (rd_T79 l (k : Int)).f0.size ≤ 140737488351232 := (hl (rd_T79 l (k : Int)) (by rw [rd79_nat l k hlt]; exact List.getElem_mem hlt)).2
      have HF := Lib.hid (first_step l k hlt hw.out)
      have HN := Lib.hid (first_found l k hlt hw.out)
      have hq0 : (0 : Int) ≤ (k : Int) := by omega
      have hq1 : (k : Int) < (l.length : Int) := by omega
      cases h1 : (rd_T79 l (k : Int)).f0.toList.isEmpty
      · by_cases h2 : (rd_T79 l (k : Int)).f1 < 1
        · have HE := Lib.hid (show wrongS (ahd l k) (rd_T79 l (k : Int)).f0 (rd_T79 l (k : Int)).f1 = 1 from by unfold wrongS; rw [if_pos (.inr h2)])
          go_wp2
          go_ret2
          exact ⟨by rw [HN.out (by rw [HE.out]; decide), HE.out]; rfl, hB⟩
        · by_cases h3 : 65536 < (rd_T79 l (k : Int)).f0.size
          · have HE := Lib.hid (show wrongS (ahd l k) (rd_T79 l (k : Int)).f0 (rd_T79 l (k : Int)).f1 = 4 from by unfold wrongS; rw [if_neg (by rw [h1]; simp; omega), if_pos h3])
            go_wp2
            go_ret2
            exact ⟨by rw [HN.out (by rw [HE.out]; decide), HE.out]; rfl, hB⟩
          · have hE : wrongS (ahd l k) (rd_T79 l (k : Int)).f0 (rd_T79 l (k : Int)).f1 = if (Op.bytesLess (rd_T79 l (k : Int)).f0.toList (ahd l k).toList || (rd_T79 l (k : Int)).f0.toList == (ahd l k).toList) = true then 6 else 0 := by
              unfold wrongS; rw [if_neg (by rw [h1]; simp; omega), if_neg h3]
            by_cases hk0 : k = 0
            · have HE := Lib.hid (show wrongS (ahd l k) (rd_T79 l (k : Int)).f0 (rd_T79 l (k : Int)).f1 = 0 from by
                rw [hE]
                have : (Op.bytesLess (rd_T79 l (k : Int)).f0.toList (ahd l k).toList || (rd_T79 l (k : Int)).f0.toList == (ahd l k).toList) = false := by
                  have e0 : (ahd l k).toList = [] := by simp [ahd, hk0]
                  rw [e0]
                  cases hc : (rd_T79 l (k : Int)).f0.toList with
                  | nil => rw [hc] at h1; cases h1
                  | cons a r => simp [Op.bytesLess]
                rw [this]; rfl)
              have hd : decide (0 < k) = false := by simp [hk0]
              clear hE hk0
              go_wp2_with fail
              go_quiet (fail)
              go_wp2
              go_roundw
              case rel => exact ⟨k + 1, by omega, by go_num, HF.out HE.out, hB.trans ((bdrew _ _ _).mono hs)⟩
              case measure => simp [intOf]; omega
            · obtain ⟨j, hj⟩ : ∃ j, k = j + 1 := ⟨k - 1, by omega⟩
              have hpr : ahd l k = (rd_T79 l (j : Int)).f0 := by rw [hj, ahd_succ]
              have hq2 : 0 < k := by omega
              have hq3 : (0 : Int) ≤ (j : Int) := by omega
              have hq4 : (j : Int) < (l.length : Int) := by omega
              have hw1 : IntKind.i64.wrap ((k : Int) - 1) = (j : Int) := by rw [IntWalk.i64_in _ (by omega)]; omega
              obtain ⟨ad', e1, hy0, _⟩ := at_T79 hr (j : Int) (by omega) (by omega)
              cases e1
              replace hy0 := (hB.cell (World.block_lt_of_cell? w _ hy0)).trans hy0
              simp only [Int.toNat_natCast] at hy0
              have hjz : (rd_T79 l (j : Int)).f0.size ≤ 140737488351232 := (hl _ (by rw [rd79_nat l j (by omega)]; exact List.getElem_mem _)).2
              rw [hpr] at hE
              cases h4 : Op.bytesLess (rd_T79 l (j : Int)).f0.toList (rd_T79 l (k : Int)).f0.toList
              · have HE := Lib.hid (show wrongS (ahd l k) (rd_T79 l (k : Int)).f0 (rd_T79 l (k : Int)).f1 = 6 from by rw [hpr, hE, if_pos (less_no h4)])
                clear hE hpr hk0 hj
                go_wp2_with fail
                go_quiet ((go_at_call 75; exact Calls.quiet_of (less_any _ _ _ hjz hsz)))
                go_wp2
                go_ret2
                exact ⟨by rw [HN.out (by rw [HE.out]; decide), HE.out]; rfl, hB.trans ((bdrew _ _ _).mono hs)⟩
              · have HE := Lib.hid (show wrongS (ahd l k) (rd_T79 l (k : Int)).f0 (rd_T79 l (k : Int)).f1 = 0 from by rw [hpr, hE, if_neg (by rw [less_yes h4]; decide)])
                clear hE hpr hk0 hj
                go_wp2_with fail
                go_quiet ((go_at_call 75; exact Calls.quiet_of (less_any _ _ _ hjz hsz)))
                go_wp2
                go_roundw
                case rel => exact ⟨k + 1, by omega, by go_num, HF.out HE.out, hB.trans ((bdrew _ _ _).mono hs)⟩
                case measure => simp [intOf]; omega
      · have HE := Lib.hid (show wrongS (ahd l k) (rd_T79 l (k : Int)).f0 (rd_T79 l (k : Int)).f1 = 1 from by unfold wrongS; rw [if_pos (.inl h1)])
        go_wp2
        go_ret2
        exact ⟨by rw [HN.out (by rw [HE.out]; decide), HE.out]; rfl, hB⟩
    · obtain rfl : k = l.length := by omega
      have HN := Lib.hid (first_none l hw.out)
      have hr2 := Kd.C_below hr hB
      cases h2 : (weightS l).2
      · go_wp2_with (go_at_call 40; refine (rweight_any _ _ _ _ hr2 hc hl hn).mono ?_; rintro e w1 ⟨rfl, hb1⟩)
        go_ret2
        exact ⟨by rw [HN.out, h2]; rfl, hB.trans (hb1.mono hB.size)⟩
      · go_wp2_with (go_at_call 40; refine (rweight_any _ _ _ _ hr2 hc hl hn).mono ?_; rintro e w1 ⟨rfl, hb1⟩)
        go_ret2
        exact ⟨by rw [HN.out, h2]; rfl, hB.trans (hb1.mono hB.size)⟩

theorem awake_any (w : World) : Calls Try.prog 35 #[] w fun e w' => e = .returned (.bool true) ∧ Below w.heap.size w w' := gluepotlaw08_awake.calls 20 _ w awake_ev
theorem great_any (A : Option Addr) (c : Nat) (l : List S79) (n : Int) (w : World) (hr : Kd.C k79 w A l.length l) (hc : l.length ≤ c) (hn : l.length ≤ 17592186044416) :
    Calls Try.prog 36 #[.slice A l.length c, .int .i64 n] w fun e w' => e = .returned (.bool (greatS l n)) ∧ ∃ m, w' = w.drewN m := by
  obtain ⟨k, h⟩ := (great_ev l n hn).rounds
  exact (gluepotref07_Great.calls k A c l n _ w hr hc h).mono fun e w' ⟨h1, h2⟩ => ⟨h1, h2.out⟩
theorem pos_any (A : Option Addr) (c : Nat) (l : List S79) (w : World) (hr : Kd.C k79 w A l.length l) (hc : l.length ≤ c) (hn : l.length ≤ 1000000) :
    Calls Try.prog 41 #[.slice A l.length c] w fun e w' => e = .returned (.int .i64 (posS l 0)) ∧ Below w.heap.size w w' := by
  obtain ⟨k, h⟩ := (pos_ev l hn).rounds
  exact table_Positions.calls k A c l _ w hr hc h
theorem rpos_any (A : Option Addr) (c : Nat) (l : List S79) (w : World) (hr : Kd.C k79 w A l.length l) (hc : l.length ≤ c) (hn : l.length ≤ 1000000) :
    Calls Try.prog 42 #[.slice A l.length c] w fun e w' => e = .returned (.int .i64 (posS l 0)) ∧ Below w.heap.size w w' := by
  obtain ⟨k, h⟩ := (rpos_ev l hn).rounds
  exact (gluepotref08_Positions.calls k A c l _ w hr hc h).mono fun e w' ⟨h1, h2⟩ => ⟨h1, h2.below⟩
end Go.Proofs.Ytbldnjpdeldabaa.TableWalk
