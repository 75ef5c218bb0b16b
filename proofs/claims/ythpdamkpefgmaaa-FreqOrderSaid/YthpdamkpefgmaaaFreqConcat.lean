/- slices.Concat of words, walked; freq.Merge, and its reference. -/
import Derived.Test.YthpdamkpefgmaaaFreqOnes
import Derived.Test.YthpdamkpefgmaaaShelfG
import Derived.Deep.RegionHeld3
namespace Go.Proofs.Ythpdamkpefgmaaa.RFreq
open Go.RowKit Go.Maps Go.Shelf Go.Proofs.YthpdamkpefgmaaaW.PrintWords Go.Proofs.YthpdamkpefgmaaaW.PrintLast Go.Proofs.YthpdamkpefgmaaaW.PrintMore Base Foot ExtTail SMap FreqPure CAdd Freq
set_option linter.unusedVariables false
set_option linter.unusedSimpArgs false
attribute [local go_sem ↓] Go.wp_at_zero Go.wp_at_succ

/-- slices of words, one behind the other -/
abbrev Pt := Option Addr × Nat × List Wd
def Parts (A : Option Addr) (ps : List Pt) (w : World) : Prop := ∀ (j : Nat) x, ps[j]? = some x → ∃ ad, A = some ad ∧ w.cell? (ad.add j) = some (.slice x.1 x.2.2.length x.2.1) ∧ SrcW w x.1 x.2.2
def joinP (ps : List Pt) : List Wd := ps.flatMap fun x => x.2.2
theorem Parts.below {A : Option Addr} {ps : List Pt} {w w' : World} (h : Parts A ps w) (hb : Below w.heap.size w w') : Parts A ps w' := fun j x hx => by
  obtain ⟨ad, e, h1, h2⟩ := h j x hx
  exact ⟨ad, e, (hb.cell (World.block_lt_of_cell? w _ h1)).trans h1, h2.below hb⟩
theorem joinP_take {ps : List Pt} {j : Nat} {x : Pt} (h : ps[j]? = some x) : joinP (ps.take (j + 1)) = joinP (ps.take j) ++ x.2.2 := by
  unfold joinP
  rw [List.take_add_one, h, List.flatMap_append]
  simp
theorem joinP_le {ps : List Pt} (j : Nat) : (joinP (ps.take j)).length ≤ (joinP ps).length := by
  have := List.take_append_drop j ps
  have e : joinP ps = joinP (ps.take j) ++ joinP (ps.drop j) := by
    unfold joinP
    rw [← List.flatMap_append, this]
  rw [e, List.length_append]
  omega
theorem oneW (l : List Wd) : ∀ u ∈ l.flatMap encW, u.oneCell' = true := by
  intro u hu
  obtain ⟨x, _, hx⟩ := List.mem_flatMap.1 hu
  simp [encW] at hx
  rcases hx with rfl | rfl <;> rfl
theorem grow_any (n : Nat) (hn : n ≤ 100000) (w : World) :
    Calls Try.prog 97 #[.slice none 0 0, .int .i64 (n : Int)] w fun e w' => ∃ v, e = .returned v ∧ RowW w.heap.size w' v [] ∧ Below w.heap.size w w' := by
  obtain ⟨iW, hiW, zW0, zW1, zW2⟩ := info_parts infoW
  by_cases h0 : n = 0
  · subst h0
    have := Any8.slices_Grow_room Try.growW none 0 0 0 w (by omega) (by omega) (by omega) (by omega)
    exact this.mono fun e w' ⟨he, hw⟩ => ⟨_, he, World.ownsRow_nil _ _ _ _, by rw [hw]; exact Below.refl _ _⟩
  · have := Any8.slices_Grow_grow Try.growW iW _ hiW zW0 (by rw [zW1]; omega) none 0 0 n [] w (by omega) (by omega) (by rw [zW2]; omega) (by omega) (by simp) (fun _ => rfl) (fun a h => by cases h)
    refine this.mono fun e w' ⟨he, hw⟩ => ⟨_, he, ?_, ?_⟩
    · rw [hw]
      have h1 := grownCap_ge w (0 + n) 0 tW
      have h2 := grownCap_le_maxLen w (0 + n) 0 tW (by unfold maxLen; omega)
      refine ⟨rfl, .inr ⟨w.heap.size, _, _, rfl, Nat.le_refl _, heap_alloc_new w.drew _, Nat.zero_le _, h2, ?_, by simp⟩⟩
      have h1 := grownCap_ge w (0 + n) 0 (Try.growW_ren.t 25)
      simp only [Nat.zero_add] at h1
      simp [Builtin.zeroCells, Value.cells]
      omega
    · rw [hw]
      exact (Below.refl _ w).drew.alloc (Nat.le_refl _) _
set_option maxHeartbeats 3200000 in
set_option maxRecDepth 100000 in
theorem concat_any {w : World} (A : Option Addr) (cp : Nat) (ps : List Pt) (hp : Parts A ps w) (hl : ps.length ≤ 1000) (ht : (joinP ps).length ≤ 10000) :
    Calls Try.prog 76 #[.slice A ps.length cp] w fun e w' => ∃ v, e = .returned v ∧ RowW w.heap.size w' v (joinP ps) ∧ Below w.heap.size w w' := by
  obtain ⟨iW, hiW, zW0, zW1, zW2⟩ := info_parts infoW
  have HP := Lib.hid hp
  clear hp
  go_enter Try.func76, Try.ntmps76
  go_wp2_with fail
  go_loop [3, 11] (fun v3 v11 => ∃ k : Nat, k ≤ ps.length ∧ v11 = .int .i64 (k : Int) ∧ v3 = .int .i64 ((joinP (ps.take k)).length : Int)) (fun _ i => ps.length - (intOf i).toNat)
  case atStart => exact ⟨0, by omega, rfl, rfl⟩
  case round =>
    obtain ⟨k, hk, rfl, rfl⟩ := hrel
    have k0 : (0 : Int) ≤ (k : Int) := by omega
    have hle := joinP_le (ps := ps) k
    by_cases hlt : k < ps.length
    · have k1 : (k : Int) < (ps.length : Int) := by omega
      have hx := List.getElem?_eq_getElem hlt
      generalize ps[k] = x at hx
      obtain ⟨ad, rfl, y0, _⟩ := HP.out k x hx
      have hj := joinP_take hx
      have hle2 := joinP_le (ps := ps) (k + 1)
      rw [hj, List.length_append] at hle2
      have HJ := Lib.hid (congrArg List.length hj)
      generalize hs : (joinP (ps.take k)).length = s at *
      have HSS := Lib.hid hs
      have hneg : ¬ ((s : Int) + (x.2.2.length : Int) < 0) := by omega
      clear hx hj hs
      go_wp2_with fail
      go_round
      case rel => exact ⟨k + 1, by omega, by go_num, by rw [HJ.out, List.length_append, HSS.out]; go_num⟩
      case measure => simp [intOf]; omega
    · obtain rfl : k = ps.length := by omega
      have hnl : ¬ (ps.length : Int) < (ps.length : Int) := by omega
      rw [List.take_length] at *
      have hg := grow_any (joinP ps).length (by omega) w
      go_wp2_with fail
      refine hg.mono ?_
      rintro e w1 ⟨v1, rfl, r1, b1⟩
      have HR1 := Lib.hid r1
      have HB1 := Lib.hid b1
      clear r1 b1 hg
      go_wp2_with fail
      go_loopw [6, 27] (fun v6 v27 wr => ∃ (k : Nat) (ov : Value), k ≤ ps.length ∧ ov = v6 ∧ v27 = .int .i64 (k : Int) ∧ Hid (RowW w.heap.size wr ov (joinP (ps.take k))) ∧ Hid (Below w.heap.size w wr)) (fun _ i _ => ps.length - (intOf i).toNat)
      case atStart => exact ⟨0, v1, by omega, rfl, rfl, HR1, HB1⟩
      case round =>
        clear HR1 HB1
        obtain ⟨k, ov, hk, rfl, rfl, HO, HB⟩ := hrel
        have k0 : (0 : Int) ≤ (k : Int) := by omega
        have hle := joinP_le (ps := ps) k
        by_cases hlt : k < ps.length
        · have k1 : (k : Int) < (ps.length : Int) := by omega
          have hx := List.getElem?_eq_getElem hlt
          generalize ps[k] = x at hx
          obtain ⟨ad, rfl, y0, y1⟩ := HP.out.below HB.out k x hx
          have hj := joinP_take hx
          have hle2 := joinP_le (ps := ps) (k + 1)
          rw [hj, List.length_append] at hle2
          have HJ := Lib.hid hj
          have HS := Lib.hid y1
          have hws := HB.out.size
          obtain ⟨x1, x2, x3⟩ := x
          obtain ⟨A3, cap3, rfl⟩ := slc HO.out
          simp only at y0 hle2
          clear hx hj y1
          go_wp2_with (at_builtin; refine Src.wpList_append_src _ rfl _ _ 77 rfl w.heap.size tW iW _ 2 24 Try.underlying77 hiW zW0 zW1 zW2 rfl (by decide) _ _ _ rfl HO.out _ _ _ _ rfl HS.out (oneW _) (by unfold maxLen; omega) (by omega) (by omega) ?_; intro v5 w5 hown5 hgrow5 hat5)
          replace hgrow5 : wr.grownBy w5 (Value.slice A3 (joinP (ps.take k)).length cap3).ownBlock := hgrow5
          have hb5 : Below w.heap.size w w5 := HB.out.grown hgrow5 HB.out.size (fun k e => (HO.out.lt k e).1)
          have HO5 := Lib.hid (show RowW w.heap.size w5 v5 (joinP (ps.take (k + 1))) by
            unfold RowW
            rw [HJ.out, List.flatMap_append, List.length_append]
            exact hown5)
          have HB5 := Lib.hid hb5
          clear hown5 hgrow5 hat5 hb5
          go_wp2_with fail
          go_roundw
          case rel => exact ⟨k + 1, v5, by omega, rfl, by go_num, HO5, HB5⟩
          case measure => simp [intOf]; omega
        · obtain rfl : k = ps.length := by omega
          have HO2 := Lib.hid (show RowW w.heap.size wr ov (joinP ps) by have := HO.out; rw [List.take_length] at this; exact this)
          go_wp2_with fail
          go_ret
          first
            | exact ⟨_, rfl, HO2.out, HB.out⟩
            | exact ⟨rfl, HO2.out, HB.out⟩
end Go.Proofs.Ythpdamkpefgmaaa.RFreq
